/-
  LanesChooses: runs.
-/
import Derived.Test.YtfdggebddcoeeaaGreatDoorTyChoosesA
set_option linter.unusedVariables false
set_option linter.unusedSimpArgs false
set_option maxRecDepth 100000
noncomputable section
namespace Go.Proofs.YtfdggebddcoeeaaGreatDoor
namespace Sx
open Go Go.RowKit

theorem chooses16_0 : yes (call Tryz.prog (Gu (keyL 22 16 :: laneK 2 0) []) sumsChooses 60 18 lawArgs .lf 0) = true := by kernel_rfl
theorem chooses16_1 : yes (call Tryz.prog (Gu (keyL 22 16 :: laneK 2 1) []) sumsChooses 60 18 lawArgs .lf 0) = true := by kernel_rfl
theorem chooses17_0 : yes (call Tryz.prog (Gu (keyL 22 17 :: laneK 2 0) []) sumsChooses 60 18 lawArgs .lf 0) = true := by kernel_rfl
theorem chooses17_1 : yes (call Tryz.prog (Gu (keyL 22 17 :: laneK 2 1) []) sumsChooses 60 18 lawArgs .lf 0) = true := by kernel_rfl
theorem chooses20_0 : yes (call Tryz.prog (Gu (keyL 22 20 :: laneK 2 0) []) sumsChooses 60 18 lawArgs .lf 0) = true := by kernel_rfl
theorem chooses20_1 : yes (call Tryz.prog (Gu (keyL 22 20 :: laneK 2 1) []) sumsChooses 60 18 lawArgs .lf 0) = true := by kernel_rfl
theorem chooses21_0 : yes (call Tryz.prog (Gu (keyL 22 21 :: laneK 2 0) []) sumsChooses 60 18 lawArgs .lf 0) = true := by kernel_rfl
theorem chooses21_1 : yes (call Tryz.prog (Gu (keyL 22 21 :: laneK 2 1) []) sumsChooses 60 18 lawArgs .lf 0) = true := by kernel_rfl

end Sx
end Go.Proofs.YtfdggebddcoeeaaGreatDoor
end
