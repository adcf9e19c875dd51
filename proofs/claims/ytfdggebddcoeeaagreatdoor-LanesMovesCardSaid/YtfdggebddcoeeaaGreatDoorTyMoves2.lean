/-
  LanesMoves: runs.
-/
import Derived.Test.YtfdggebddcoeeaaGreatDoorTyMovesA
set_option linter.unusedVariables false
set_option linter.unusedSimpArgs false
set_option maxRecDepth 100000
noncomputable section
namespace Go.Proofs.YtfdggebddcoeeaaGreatDoor
namespace Sx
open Go Go.RowKit

theorem moves6 : yes (call Tryz.prog (Gt [keyL 12 6]) sumsMoves 60 6 lawArgs .lf 0) = true := by kernel_rfl
theorem moves7 : yes (call Tryz.prog (Gt [keyL 12 7]) sumsMoves 60 6 lawArgs .lf 0) = true := by kernel_rfl
theorem moves8 : yes (call Tryz.prog (Gt [keyL 12 8]) sumsMoves 60 6 lawArgs .lf 0) = true := by kernel_rfl
theorem moves9 : yes (call Tryz.prog (Gt [keyL 12 9]) sumsMoves 60 6 lawArgs .lf 0) = true := by kernel_rfl
theorem moves10 : yes (call Tryz.prog (Gt [keyL 12 10]) sumsMoves 60 6 lawArgs .lf 0) = true := by kernel_rfl
theorem moves11 : yes (call Tryz.prog (Gt [keyL 12 11]) sumsMoves 60 6 lawArgs .lf 0) = true := by kernel_rfl

end Sx
end Go.Proofs.YtfdggebddcoeeaaGreatDoor
end
