/-
  LanesSums: runs.
-/
import Derived.Test.YtfdggebddcoeeaaGreatDoorTySumsA
set_option linter.unusedVariables false
set_option linter.unusedSimpArgs false
set_option maxRecDepth 100000
noncomputable section
namespace Go.Proofs.YtfdggebddcoeeaaGreatDoor
namespace Sx
open Go Go.RowKit

theorem lanesSums0 : yes (call Tryz.prog (Gt [keyL 20 0]) sumsSums 60 9 lawArgs .lf 0) = true := by kernel_rfl
theorem lanesSums1 : yes (call Tryz.prog (Gt [keyL 20 1]) sumsSums 60 9 lawArgs .lf 0) = true := by kernel_rfl
theorem lanesSums2 : yes (call Tryz.prog (Gt [keyL 20 2]) sumsSums 60 9 lawArgs .lf 0) = true := by kernel_rfl
theorem lanesSums3 : yes (call Tryz.prog (Gt [keyL 20 3]) sumsSums 60 9 lawArgs .lf 0) = true := by kernel_rfl
theorem lanesSums4 : yes (call Tryz.prog (Gt [keyL 20 4]) sumsSums 60 9 lawArgs .lf 0) = true := by kernel_rfl
theorem lanesSums5 : yes (call Tryz.prog (Gt [keyL 20 5]) sumsSums 60 9 lawArgs .lf 0) = true := by kernel_rfl
theorem lanesSums6 : yes (call Tryz.prog (Gt [keyL 20 6]) sumsSums 60 9 lawArgs .lf 0) = true := by kernel_rfl
theorem lanesSums7 : yes (call Tryz.prog (Gt [keyL 20 7]) sumsSums 60 9 lawArgs .lf 0) = true := by kernel_rfl
theorem lanesSums8 : yes (call Tryz.prog (Gt [keyL 20 8]) sumsSums 60 9 lawArgs .lf 0) = true := by kernel_rfl
theorem lanesSums9 : yes (call Tryz.prog (Gt [keyL 20 9]) sumsSums 60 9 lawArgs .lf 0) = true := by kernel_rfl

end Sx
end Go.Proofs.YtfdggebddcoeeaaGreatDoor
end
