/-
  LanesChooses: runs.
-/
import Derived.Test.YtfdggebddcoeeaaGreatDoorTyChoosesA
set_option linter.unusedVariables false
set_option linter.unusedSimpArgs false
set_option maxRecDepth 100000
noncomputable section
namespace Go.Proofs.YtfdggebddcoeeaaGreatDoor
namespace Sx
open Go Go.RowKit

theorem chooses0_16 : yes (call Tryz.prog (Gu (keyL 22 0 :: shufK 16 16) []) sumsChooses 60 18 lawArgs .lf 0) = true := by kernel_rfl
theorem chooses0_17 : yes (call Tryz.prog (Gu (keyL 22 0 :: shufK 17 16) []) sumsChooses 60 18 lawArgs .lf 0) = true := by kernel_rfl
theorem chooses0_18 : yes (call Tryz.prog (Gu (keyL 22 0 :: shufK 18 16) []) sumsChooses 60 18 lawArgs .lf 0) = true := by kernel_rfl
theorem chooses0_19 : yes (call Tryz.prog (Gu (keyL 22 0 :: shufK 19 16) []) sumsChooses 60 18 lawArgs .lf 0) = true := by kernel_rfl
theorem chooses0_20 : yes (call Tryz.prog (Gu (keyL 22 0 :: shufK 20 16) []) sumsChooses 60 18 lawArgs .lf 0) = true := by kernel_rfl
theorem chooses0_21 : yes (call Tryz.prog (Gu (keyL 22 0 :: shufK 21 16) []) sumsChooses 60 18 lawArgs .lf 0) = true := by kernel_rfl
theorem chooses0_22 : yes (call Tryz.prog (Gu (keyL 22 0 :: shufK 22 16) []) sumsChooses 60 18 lawArgs .lf 0) = true := by kernel_rfl
theorem chooses0_23 : yes (call Tryz.prog (Gu (keyL 22 0 :: shufK 23 16) []) sumsChooses 60 18 lawArgs .lf 0) = true := by kernel_rfl

end Sx
end Go.Proofs.YtfdggebddcoeeaaGreatDoor
end
