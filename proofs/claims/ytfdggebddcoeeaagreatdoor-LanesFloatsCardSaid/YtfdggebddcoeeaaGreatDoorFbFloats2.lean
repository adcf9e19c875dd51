/-
  LanesFloats: runs.
-/
import Derived.Test.YtfdggebddcoeeaaGreatDoorFbPart7
set_option linter.unusedVariables false
set_option linter.unusedSimpArgs false
set_option maxRecDepth 100000
noncomputable section
namespace Go.Proofs.YtfdggebddcoeeaaGreatDoor
namespace Sx
open Go Go.RowKit

theorem floats4 : yes (call Tryz.prog (Gt [keyL 16 4]) sumsFloats 60 12 lawArgs .lf 0) = true := by kernel_rfl
theorem floats5 : yes (call Tryz.prog (Gt [keyL 16 5]) sumsFloats 60 12 lawArgs .lf 0) = true := by kernel_rfl
theorem floats6 : yes (call Tryz.prog (Gt [keyL 16 6]) sumsFloats 60 12 lawArgs .lf 0) = true := by kernel_rfl
theorem floats7 : yes (call Tryz.prog (Gt [keyL 16 7]) sumsFloats 60 12 lawArgs .lf 0) = true := by kernel_rfl

end Sx
end Go.Proofs.YtfdggebddcoeeaaGreatDoor
end
