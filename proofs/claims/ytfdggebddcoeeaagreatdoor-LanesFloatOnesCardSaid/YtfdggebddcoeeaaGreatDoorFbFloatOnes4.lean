/-
  LanesFloatOnes: runs.
-/
import Derived.Test.YtfdggebddcoeeaaGreatDoorFbPart7
set_option linter.unusedVariables false
set_option linter.unusedSimpArgs false
set_option maxRecDepth 100000
noncomputable section
namespace Go.Proofs.YtfdggebddcoeeaaGreatDoor
namespace Sx
open Go Go.RowKit

theorem floatOnes12 : yes (call Tryz.prog (Gt [keyL 14 12]) sumsFloatOnes 60 13 lawArgs .lf 0) = true := by kernel_rfl
theorem floatOnes13 : yes (call Tryz.prog (Gt [keyL 14 13]) sumsFloatOnes 60 13 lawArgs .lf 0) = true := by kernel_rfl

end Sx
end Go.Proofs.YtfdggebddcoeeaaGreatDoor
end
