/-
  LanesChooses: runs.
-/
import Derived.Test.YtfdggebddcoeeaaGreatDoorTyChoosesA
set_option linter.unusedVariables false
set_option linter.unusedSimpArgs false
set_option maxRecDepth 100000
noncomputable section
namespace Go.Proofs.YtfdggebddcoeeaaGreatDoor
namespace Sx
open Go Go.RowKit

theorem chooses0_8 : yes (call Tryz.prog (Gu (keyL 22 0 :: shufK 8 16) []) sumsChooses 60 18 lawArgs .lf 0) = true := by kernel_rfl
theorem chooses0_9 : yes (call Tryz.prog (Gu (keyL 22 0 :: shufK 9 16) []) sumsChooses 60 18 lawArgs .lf 0) = true := by kernel_rfl
theorem chooses0_10 : yes (call Tryz.prog (Gu (keyL 22 0 :: shufK 10 16) []) sumsChooses 60 18 lawArgs .lf 0) = true := by kernel_rfl
theorem chooses0_11 : yes (call Tryz.prog (Gu (keyL 22 0 :: shufK 11 16) []) sumsChooses 60 18 lawArgs .lf 0) = true := by kernel_rfl
theorem chooses0_12 : yes (call Tryz.prog (Gu (keyL 22 0 :: shufK 12 16) []) sumsChooses 60 18 lawArgs .lf 0) = true := by kernel_rfl
theorem chooses0_13 : yes (call Tryz.prog (Gu (keyL 22 0 :: shufK 13 16) []) sumsChooses 60 18 lawArgs .lf 0) = true := by kernel_rfl
theorem chooses0_14 : yes (call Tryz.prog (Gu (keyL 22 0 :: shufK 14 16) []) sumsChooses 60 18 lawArgs .lf 0) = true := by kernel_rfl
theorem chooses0_15 : yes (call Tryz.prog (Gu (keyL 22 0 :: shufK 15 16) []) sumsChooses 60 18 lawArgs .lf 0) = true := by kernel_rfl

end Sx
end Go.Proofs.YtfdggebddcoeeaaGreatDoor
end
