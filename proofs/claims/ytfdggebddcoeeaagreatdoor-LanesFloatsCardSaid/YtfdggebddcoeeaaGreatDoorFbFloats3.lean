/-
  LanesFloats: runs.
-/
import Derived.Test.YtfdggebddcoeeaaGreatDoorFbPart7
set_option linter.unusedVariables false
set_option linter.unusedSimpArgs false
set_option maxRecDepth 100000
noncomputable section
namespace Go.Proofs.YtfdggebddcoeeaaGreatDoor
namespace Sx
open Go Go.RowKit

theorem floats8 : yes (call Tryz.prog (Gt [keyL 16 8]) sumsFloats 60 12 lawArgs .lf 0) = true := by kernel_rfl
theorem floats9 : yes (call Tryz.prog (Gt [keyL 16 9]) sumsFloats 60 12 lawArgs .lf 0) = true := by kernel_rfl
theorem floats10 : yes (call Tryz.prog (Gt [keyL 16 10]) sumsFloats 60 12 lawArgs .lf 0) = true := by kernel_rfl
theorem floats11 : yes (call Tryz.prog (Gt [keyL 16 11]) sumsFloats 60 12 lawArgs .lf 0) = true := by kernel_rfl

end Sx
end Go.Proofs.YtfdggebddcoeeaaGreatDoor
end
