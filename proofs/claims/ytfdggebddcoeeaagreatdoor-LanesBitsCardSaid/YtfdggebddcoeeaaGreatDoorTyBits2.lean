/-
  LanesBits: runs.
-/
import Derived.Test.YtfdggebddcoeeaaGreatDoorTyBitsA
set_option linter.unusedVariables false
set_option linter.unusedSimpArgs false
set_option maxRecDepth 100000
noncomputable section
namespace Go.Proofs.YtfdggebddcoeeaaGreatDoor
namespace Sx
open Go Go.RowKit

theorem bits3 : isTwo (boolE (call Tryz.prog (Gu ([keyL 15 3]) []) sumsBits 60 19 lawArgsM .lf 0)) = true := by kernel_rfl
theorem bits4 : isTwo (boolE (call Tryz.prog (Gu ([keyL 15 4]) []) sumsBits 60 19 lawArgsM .lf 0)) = true := by kernel_rfl
theorem bits5 : isTwo (boolE (call Tryz.prog (Gu ([keyL 15 5]) []) sumsBits 60 19 lawArgsM .lf 0)) = true := by kernel_rfl

end Sx
end Go.Proofs.YtfdggebddcoeeaaGreatDoor
end
