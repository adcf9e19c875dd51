/-
  LanesMoves: runs.
-/
import Derived.Test.YtfdggebddcoeeaaGreatDoorTyMovesA
set_option linter.unusedVariables false
set_option linter.unusedSimpArgs false
set_option maxRecDepth 100000
noncomputable section
namespace Go.Proofs.YtfdggebddcoeeaaGreatDoor
namespace Sx
open Go Go.RowKit

theorem moves0 : yes (call Tryz.prog (Gt [keyL 12 0]) sumsMoves 60 6 lawArgs .lf 0) = true := by kernel_rfl
theorem moves1 : yes (call Tryz.prog (Gt [keyL 12 1]) sumsMoves 60 6 lawArgs .lf 0) = true := by kernel_rfl
theorem moves2 : yes (call Tryz.prog (Gt [keyL 12 2]) sumsMoves 60 6 lawArgs .lf 0) = true := by kernel_rfl
theorem moves3 : yes (call Tryz.prog (Gt [keyL 12 3]) sumsMoves 60 6 lawArgs .lf 0) = true := by kernel_rfl
theorem moves4 : yes (call Tryz.prog (Gt [keyL 12 4]) sumsMoves 60 6 lawArgs .lf 0) = true := by kernel_rfl
theorem moves5 : yes (call Tryz.prog (Gt [keyL 12 5]) sumsMoves 60 6 lawArgs .lf 0) = true := by kernel_rfl

end Sx
end Go.Proofs.YtfdggebddcoeeaaGreatDoor
end
