/-
  LanesFloatOnes: runs.
-/
import Derived.Test.YtfdggebddcoeeaaGreatDoorFbPart7
set_option linter.unusedVariables false
set_option linter.unusedSimpArgs false
set_option maxRecDepth 100000
noncomputable section
namespace Go.Proofs.YtfdggebddcoeeaaGreatDoor
namespace Sx
open Go Go.RowKit

theorem floatOnes0 : yes (call Tryz.prog (Gt [keyL 14 0]) sumsFloatOnes 60 13 lawArgs .lf 0) = true := by kernel_rfl
theorem floatOnes1 : yes (call Tryz.prog (Gt [keyL 14 1]) sumsFloatOnes 60 13 lawArgs .lf 0) = true := by kernel_rfl
theorem floatOnes2 : yes (call Tryz.prog (Gt [keyL 14 2]) sumsFloatOnes 60 13 lawArgs .lf 0) = true := by kernel_rfl
theorem floatOnes3 : yes (call Tryz.prog (Gt [keyL 14 3]) sumsFloatOnes 60 13 lawArgs .lf 0) = true := by kernel_rfl

end Sx
end Go.Proofs.YtfdggebddcoeeaaGreatDoor
end
