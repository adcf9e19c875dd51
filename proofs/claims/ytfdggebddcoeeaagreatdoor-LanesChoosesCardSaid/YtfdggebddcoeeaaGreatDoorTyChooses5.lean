/-
  LanesChooses: runs.
-/
import Derived.Test.YtfdggebddcoeeaaGreatDoorTyChoosesA
set_option linter.unusedVariables false
set_option linter.unusedSimpArgs false
set_option maxRecDepth 100000
noncomputable section
namespace Go.Proofs.YtfdggebddcoeeaaGreatDoor
namespace Sx
open Go Go.RowKit

theorem chooses0_24 : yes (call Tryz.prog (Gu (keyL 22 0 :: shufK 24 16) []) sumsChooses 60 18 lawArgs .lf 0) = true := by kernel_rfl
theorem chooses0_25 : yes (call Tryz.prog (Gu (keyL 22 0 :: shufK 25 16) []) sumsChooses 60 18 lawArgs .lf 0) = true := by kernel_rfl
theorem chooses0_26 : yes (call Tryz.prog (Gu (keyL 22 0 :: shufK 26 16) []) sumsChooses 60 18 lawArgs .lf 0) = true := by kernel_rfl
theorem chooses0_27 : yes (call Tryz.prog (Gu (keyL 22 0 :: shufK 27 16) []) sumsChooses 60 18 lawArgs .lf 0) = true := by kernel_rfl
theorem chooses0_28 : yes (call Tryz.prog (Gu (keyL 22 0 :: shufK 28 16) []) sumsChooses 60 18 lawArgs .lf 0) = true := by kernel_rfl
theorem chooses0_29 : yes (call Tryz.prog (Gu (keyL 22 0 :: shufK 29 16) []) sumsChooses 60 18 lawArgs .lf 0) = true := by kernel_rfl
theorem chooses0_30 : yes (call Tryz.prog (Gu (keyL 22 0 :: shufK 30 16) []) sumsChooses 60 18 lawArgs .lf 0) = true := by kernel_rfl
theorem chooses0_31 : yes (call Tryz.prog (Gu (keyL 22 0 :: shufK 31 16) []) sumsChooses 60 18 lawArgs .lf 0) = true := by kernel_rfl

end Sx
end Go.Proofs.YtfdggebddcoeeaaGreatDoor
end
