/-
  LanesChooses: runs.
-/
import Derived.Test.YtfdggebddcoeeaaGreatDoorTyChoosesA
set_option linter.unusedVariables false
set_option linter.unusedSimpArgs false
set_option maxRecDepth 100000
noncomputable section
namespace Go.Proofs.YtfdggebddcoeeaaGreatDoor
namespace Sx
open Go Go.RowKit

theorem chooses11_0 : yes (call Tryz.prog (Gu (keyL 22 11 :: laneK 8 0) []) sumsChooses 60 18 lawArgs .lf 0) = true := by kernel_rfl
theorem chooses11_1 : yes (call Tryz.prog (Gu (keyL 22 11 :: laneK 8 1) []) sumsChooses 60 18 lawArgs .lf 0) = true := by kernel_rfl
theorem chooses11_2 : yes (call Tryz.prog (Gu (keyL 22 11 :: laneK 8 2) []) sumsChooses 60 18 lawArgs .lf 0) = true := by kernel_rfl
theorem chooses11_3 : yes (call Tryz.prog (Gu (keyL 22 11 :: laneK 8 3) []) sumsChooses 60 18 lawArgs .lf 0) = true := by kernel_rfl
theorem chooses11_4 : yes (call Tryz.prog (Gu (keyL 22 11 :: laneK 8 4) []) sumsChooses 60 18 lawArgs .lf 0) = true := by kernel_rfl
theorem chooses11_5 : yes (call Tryz.prog (Gu (keyL 22 11 :: laneK 8 5) []) sumsChooses 60 18 lawArgs .lf 0) = true := by kernel_rfl
theorem chooses11_6 : yes (call Tryz.prog (Gu (keyL 22 11 :: laneK 8 6) []) sumsChooses 60 18 lawArgs .lf 0) = true := by kernel_rfl
theorem chooses11_7 : yes (call Tryz.prog (Gu (keyL 22 11 :: laneK 8 7) []) sumsChooses 60 18 lawArgs .lf 0) = true := by kernel_rfl
theorem chooses12_0 : yes (call Tryz.prog (Gu (keyL 22 12 :: laneK 8 0) []) sumsChooses 60 18 lawArgs .lf 0) = true := by kernel_rfl
theorem chooses12_1 : yes (call Tryz.prog (Gu (keyL 22 12 :: laneK 8 1) []) sumsChooses 60 18 lawArgs .lf 0) = true := by kernel_rfl
theorem chooses12_2 : yes (call Tryz.prog (Gu (keyL 22 12 :: laneK 8 2) []) sumsChooses 60 18 lawArgs .lf 0) = true := by kernel_rfl
theorem chooses12_3 : yes (call Tryz.prog (Gu (keyL 22 12 :: laneK 8 3) []) sumsChooses 60 18 lawArgs .lf 0) = true := by kernel_rfl
theorem chooses12_4 : yes (call Tryz.prog (Gu (keyL 22 12 :: laneK 8 4) []) sumsChooses 60 18 lawArgs .lf 0) = true := by kernel_rfl
theorem chooses12_5 : yes (call Tryz.prog (Gu (keyL 22 12 :: laneK 8 5) []) sumsChooses 60 18 lawArgs .lf 0) = true := by kernel_rfl
theorem chooses12_6 : yes (call Tryz.prog (Gu (keyL 22 12 :: laneK 8 6) []) sumsChooses 60 18 lawArgs .lf 0) = true := by kernel_rfl
theorem chooses12_7 : yes (call Tryz.prog (Gu (keyL 22 12 :: laneK 8 7) []) sumsChooses 60 18 lawArgs .lf 0) = true := by kernel_rfl

end Sx
end Go.Proofs.YtfdggebddcoeeaaGreatDoor
end
