/-
  LanesBits: runs.
-/
import Derived.Test.YtfdggebddcoeeaaGreatDoorTyBitsA
set_option linter.unusedVariables false
set_option linter.unusedSimpArgs false
set_option maxRecDepth 100000
noncomputable section
namespace Go.Proofs.YtfdggebddcoeeaaGreatDoor
namespace Sx
open Go Go.RowKit

theorem bits0 : isTwo (boolE (call Tryz.prog (Gu ([keyL 15 0]) []) sumsBits 60 19 lawArgsM .lf 0)) = true := by kernel_rfl
theorem bits1 : isTwo (boolE (call Tryz.prog (Gu ([keyL 15 1]) []) sumsBits 60 19 lawArgsM .lf 0)) = true := by kernel_rfl
theorem bits2 : isTwo (boolE (call Tryz.prog (Gu ([keyL 15 2]) []) sumsBits 60 19 lawArgsM .lf 0)) = true := by kernel_rfl

end Sx
end Go.Proofs.YtfdggebddcoeeaaGreatDoor
end
