/-
  LanesFloats: runs.
-/
import Derived.Test.YtfdggebddcoeeaaGreatDoorFbPart7
set_option linter.unusedVariables false
set_option linter.unusedSimpArgs false
set_option maxRecDepth 100000
noncomputable section
namespace Go.Proofs.YtfdggebddcoeeaaGreatDoor
namespace Sx
open Go Go.RowKit

theorem floats12 : yes (call Tryz.prog (Gt [keyL 16 12]) sumsFloats 60 12 lawArgs .lf 0) = true := by kernel_rfl
theorem floats13 : yes (call Tryz.prog (Gt [keyL 16 13]) sumsFloats 60 12 lawArgs .lf 0) = true := by kernel_rfl
theorem floats14 : yes (call Tryz.prog (Gt [keyL 16 14]) sumsFloats 60 12 lawArgs .lf 0) = true := by kernel_rfl
theorem floats15 : yes (call Tryz.prog (Gt [keyL 16 15]) sumsFloats 60 12 lawArgs .lf 0) = true := by kernel_rfl

end Sx
end Go.Proofs.YtfdggebddcoeeaaGreatDoor
end
