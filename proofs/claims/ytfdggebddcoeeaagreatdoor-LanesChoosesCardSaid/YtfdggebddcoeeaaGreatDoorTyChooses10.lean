/-
  LanesChooses: runs.
-/
import Derived.Test.YtfdggebddcoeeaaGreatDoorTyChoosesA
set_option linter.unusedVariables false
set_option linter.unusedSimpArgs false
set_option maxRecDepth 100000
noncomputable section
namespace Go.Proofs.YtfdggebddcoeeaaGreatDoor
namespace Sx
open Go Go.RowKit

theorem chooses13_0 : yes (call Tryz.prog (Gu (keyL 22 13 :: laneK 8 0) []) sumsChooses 60 18 lawArgs .lf 0) = true := by kernel_rfl
theorem chooses13_1 : yes (call Tryz.prog (Gu (keyL 22 13 :: laneK 8 1) []) sumsChooses 60 18 lawArgs .lf 0) = true := by kernel_rfl
theorem chooses13_2 : yes (call Tryz.prog (Gu (keyL 22 13 :: laneK 8 2) []) sumsChooses 60 18 lawArgs .lf 0) = true := by kernel_rfl
theorem chooses13_3 : yes (call Tryz.prog (Gu (keyL 22 13 :: laneK 8 3) []) sumsChooses 60 18 lawArgs .lf 0) = true := by kernel_rfl
theorem chooses13_4 : yes (call Tryz.prog (Gu (keyL 22 13 :: laneK 8 4) []) sumsChooses 60 18 lawArgs .lf 0) = true := by kernel_rfl
theorem chooses13_5 : yes (call Tryz.prog (Gu (keyL 22 13 :: laneK 8 5) []) sumsChooses 60 18 lawArgs .lf 0) = true := by kernel_rfl
theorem chooses13_6 : yes (call Tryz.prog (Gu (keyL 22 13 :: laneK 8 6) []) sumsChooses 60 18 lawArgs .lf 0) = true := by kernel_rfl
theorem chooses13_7 : yes (call Tryz.prog (Gu (keyL 22 13 :: laneK 8 7) []) sumsChooses 60 18 lawArgs .lf 0) = true := by kernel_rfl
theorem chooses14_0 : yes (call Tryz.prog (Gu (keyL 22 14 :: laneK 4 0) []) sumsChooses 60 18 lawArgs .lf 0) = true := by kernel_rfl
theorem chooses14_1 : yes (call Tryz.prog (Gu (keyL 22 14 :: laneK 4 1) []) sumsChooses 60 18 lawArgs .lf 0) = true := by kernel_rfl
theorem chooses14_2 : yes (call Tryz.prog (Gu (keyL 22 14 :: laneK 4 2) []) sumsChooses 60 18 lawArgs .lf 0) = true := by kernel_rfl
theorem chooses14_3 : yes (call Tryz.prog (Gu (keyL 22 14 :: laneK 4 3) []) sumsChooses 60 18 lawArgs .lf 0) = true := by kernel_rfl
theorem chooses15_0 : yes (call Tryz.prog (Gu (keyL 22 15 :: laneK 4 0) []) sumsChooses 60 18 lawArgs .lf 0) = true := by kernel_rfl
theorem chooses15_1 : yes (call Tryz.prog (Gu (keyL 22 15 :: laneK 4 1) []) sumsChooses 60 18 lawArgs .lf 0) = true := by kernel_rfl
theorem chooses15_2 : yes (call Tryz.prog (Gu (keyL 22 15 :: laneK 4 2) []) sumsChooses 60 18 lawArgs .lf 0) = true := by kernel_rfl
theorem chooses15_3 : yes (call Tryz.prog (Gu (keyL 22 15 :: laneK 4 3) []) sumsChooses 60 18 lawArgs .lf 0) = true := by kernel_rfl
theorem chooses18_0 : yes (call Tryz.prog (Gu (keyL 22 18 :: laneK 4 0) []) sumsChooses 60 18 lawArgs .lf 0) = true := by kernel_rfl
theorem chooses18_1 : yes (call Tryz.prog (Gu (keyL 22 18 :: laneK 4 1) []) sumsChooses 60 18 lawArgs .lf 0) = true := by kernel_rfl
theorem chooses18_2 : yes (call Tryz.prog (Gu (keyL 22 18 :: laneK 4 2) []) sumsChooses 60 18 lawArgs .lf 0) = true := by kernel_rfl
theorem chooses18_3 : yes (call Tryz.prog (Gu (keyL 22 18 :: laneK 4 3) []) sumsChooses 60 18 lawArgs .lf 0) = true := by kernel_rfl
theorem chooses19_0 : yes (call Tryz.prog (Gu (keyL 22 19 :: laneK 4 0) []) sumsChooses 60 18 lawArgs .lf 0) = true := by kernel_rfl
theorem chooses19_1 : yes (call Tryz.prog (Gu (keyL 22 19 :: laneK 4 1) []) sumsChooses 60 18 lawArgs .lf 0) = true := by kernel_rfl
theorem chooses19_2 : yes (call Tryz.prog (Gu (keyL 22 19 :: laneK 4 2) []) sumsChooses 60 18 lawArgs .lf 0) = true := by kernel_rfl
theorem chooses19_3 : yes (call Tryz.prog (Gu (keyL 22 19 :: laneK 4 3) []) sumsChooses 60 18 lawArgs .lf 0) = true := by kernel_rfl

end Sx
end Go.Proofs.YtfdggebddcoeeaaGreatDoor
end
