/-
  LanesSums: runs.
-/
import Derived.Test.YtfdggebddcoeeaaGreatDoorTySumsA
set_option linter.unusedVariables false
set_option linter.unusedSimpArgs false
set_option maxRecDepth 100000
noncomputable section
namespace Go.Proofs.YtfdggebddcoeeaaGreatDoor
namespace Sx
open Go Go.RowKit

theorem lanesSums10 : yes (call Tryz.prog (Gt [keyL 20 10]) sumsSums 60 9 lawArgs .lf 0) = true := by kernel_rfl
theorem lanesSums11 : yes (call Tryz.prog (Gt [keyL 20 11]) sumsSums 60 9 lawArgs .lf 0) = true := by kernel_rfl
theorem lanesSums12 : yes (call Tryz.prog (Gt [keyL 20 12]) sumsSums 60 9 lawArgs .lf 0) = true := by kernel_rfl
theorem lanesSums13 : yes (call Tryz.prog (Gt [keyL 20 13]) sumsSums 60 9 lawArgs .lf 0) = true := by kernel_rfl
theorem lanesSums14 : yes (call Tryz.prog (Gt [keyL 20 14]) sumsSums 60 9 lawArgs .lf 0) = true := by kernel_rfl
theorem lanesSums15 : yes (call Tryz.prog (Gt [keyL 20 15]) sumsSums 60 9 lawArgs .lf 0) = true := by kernel_rfl
theorem lanesSums16 : yes (call Tryz.prog (Gt [keyL 20 16]) sumsSums 60 9 lawArgs .lf 0) = true := by kernel_rfl
theorem lanesSums17 : yes (call Tryz.prog (Gt [keyL 20 17]) sumsSums 60 9 lawArgs .lf 0) = true := by kernel_rfl
theorem lanesSums18 : yes (call Tryz.prog (Gt [keyL 20 18]) sumsSums 60 9 lawArgs .lf 0) = true := by kernel_rfl
theorem lanesSums19 : yes (call Tryz.prog (Gt [keyL 20 19]) sumsSums 60 9 lawArgs .lf 0) = true := by kernel_rfl

end Sx
end Go.Proofs.YtfdggebddcoeeaaGreatDoor
end
