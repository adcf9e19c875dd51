/-
  LanesChooses: runs.
-/
import Derived.Test.YtfdggebddcoeeaaGreatDoorTyChoosesA
set_option linter.unusedVariables false
set_option linter.unusedSimpArgs false
set_option maxRecDepth 100000
noncomputable section
namespace Go.Proofs.YtfdggebddcoeeaaGreatDoor
namespace Sx
open Go Go.RowKit

theorem chooses8_0 : yes (call Tryz.prog (Gu (keyL 22 8 :: laneK 16 0) []) sumsChooses 60 18 lawArgs .lf 0) = true := by kernel_rfl
theorem chooses8_1 : yes (call Tryz.prog (Gu (keyL 22 8 :: laneK 16 1) []) sumsChooses 60 18 lawArgs .lf 0) = true := by kernel_rfl
theorem chooses8_2 : yes (call Tryz.prog (Gu (keyL 22 8 :: laneK 16 2) []) sumsChooses 60 18 lawArgs .lf 0) = true := by kernel_rfl
theorem chooses8_3 : yes (call Tryz.prog (Gu (keyL 22 8 :: laneK 16 3) []) sumsChooses 60 18 lawArgs .lf 0) = true := by kernel_rfl
theorem chooses8_4 : yes (call Tryz.prog (Gu (keyL 22 8 :: laneK 16 4) []) sumsChooses 60 18 lawArgs .lf 0) = true := by kernel_rfl
theorem chooses8_5 : yes (call Tryz.prog (Gu (keyL 22 8 :: laneK 16 5) []) sumsChooses 60 18 lawArgs .lf 0) = true := by kernel_rfl
theorem chooses8_6 : yes (call Tryz.prog (Gu (keyL 22 8 :: laneK 16 6) []) sumsChooses 60 18 lawArgs .lf 0) = true := by kernel_rfl
theorem chooses8_7 : yes (call Tryz.prog (Gu (keyL 22 8 :: laneK 16 7) []) sumsChooses 60 18 lawArgs .lf 0) = true := by kernel_rfl
theorem chooses8_8 : yes (call Tryz.prog (Gu (keyL 22 8 :: laneK 16 8) []) sumsChooses 60 18 lawArgs .lf 0) = true := by kernel_rfl
theorem chooses8_9 : yes (call Tryz.prog (Gu (keyL 22 8 :: laneK 16 9) []) sumsChooses 60 18 lawArgs .lf 0) = true := by kernel_rfl
theorem chooses8_10 : yes (call Tryz.prog (Gu (keyL 22 8 :: laneK 16 10) []) sumsChooses 60 18 lawArgs .lf 0) = true := by kernel_rfl
theorem chooses8_11 : yes (call Tryz.prog (Gu (keyL 22 8 :: laneK 16 11) []) sumsChooses 60 18 lawArgs .lf 0) = true := by kernel_rfl
theorem chooses8_12 : yes (call Tryz.prog (Gu (keyL 22 8 :: laneK 16 12) []) sumsChooses 60 18 lawArgs .lf 0) = true := by kernel_rfl
theorem chooses8_13 : yes (call Tryz.prog (Gu (keyL 22 8 :: laneK 16 13) []) sumsChooses 60 18 lawArgs .lf 0) = true := by kernel_rfl
theorem chooses8_14 : yes (call Tryz.prog (Gu (keyL 22 8 :: laneK 16 14) []) sumsChooses 60 18 lawArgs .lf 0) = true := by kernel_rfl
theorem chooses8_15 : yes (call Tryz.prog (Gu (keyL 22 8 :: laneK 16 15) []) sumsChooses 60 18 lawArgs .lf 0) = true := by kernel_rfl

end Sx
end Go.Proofs.YtfdggebddcoeeaaGreatDoor
end
