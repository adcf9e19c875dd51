/-
  LanesChooses: runs.
-/
import Derived.Test.YtfdggebddcoeeaaGreatDoorTyChoosesA
set_option linter.unusedVariables false
set_option linter.unusedSimpArgs false
set_option maxRecDepth 100000
noncomputable section
namespace Go.Proofs.YtfdggebddcoeeaaGreatDoor
namespace Sx
open Go Go.RowKit

theorem chooses0_0 : yes (call Tryz.prog (Gu (keyL 22 0 :: shufK 0 16) []) sumsChooses 60 18 lawArgs .lf 0) = true := by kernel_rfl
theorem chooses0_1 : yes (call Tryz.prog (Gu (keyL 22 0 :: shufK 1 16) []) sumsChooses 60 18 lawArgs .lf 0) = true := by kernel_rfl
theorem chooses0_2 : yes (call Tryz.prog (Gu (keyL 22 0 :: shufK 2 16) []) sumsChooses 60 18 lawArgs .lf 0) = true := by kernel_rfl
theorem chooses0_3 : yes (call Tryz.prog (Gu (keyL 22 0 :: shufK 3 16) []) sumsChooses 60 18 lawArgs .lf 0) = true := by kernel_rfl
theorem chooses0_4 : yes (call Tryz.prog (Gu (keyL 22 0 :: shufK 4 16) []) sumsChooses 60 18 lawArgs .lf 0) = true := by kernel_rfl
theorem chooses0_5 : yes (call Tryz.prog (Gu (keyL 22 0 :: shufK 5 16) []) sumsChooses 60 18 lawArgs .lf 0) = true := by kernel_rfl
theorem chooses0_6 : yes (call Tryz.prog (Gu (keyL 22 0 :: shufK 6 16) []) sumsChooses 60 18 lawArgs .lf 0) = true := by kernel_rfl
theorem chooses0_7 : yes (call Tryz.prog (Gu (keyL 22 0 :: shufK 7 16) []) sumsChooses 60 18 lawArgs .lf 0) = true := by kernel_rfl

end Sx
end Go.Proofs.YtfdggebddcoeeaaGreatDoor
end
