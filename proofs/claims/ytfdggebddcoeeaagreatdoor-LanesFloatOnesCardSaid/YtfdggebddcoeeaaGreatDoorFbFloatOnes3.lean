/-
  LanesFloatOnes: runs.
-/
import Derived.Test.YtfdggebddcoeeaaGreatDoorFbPart7
set_option linter.unusedVariables false
set_option linter.unusedSimpArgs false
set_option maxRecDepth 100000
noncomputable section
namespace Go.Proofs.YtfdggebddcoeeaaGreatDoor
namespace Sx
open Go Go.RowKit

theorem floatOnes8 : yes (call Tryz.prog (Gt [keyL 14 8]) sumsFloatOnes 60 13 lawArgs .lf 0) = true := by kernel_rfl
theorem floatOnes9 : yes (call Tryz.prog (Gt [keyL 14 9]) sumsFloatOnes 60 13 lawArgs .lf 0) = true := by kernel_rfl
theorem floatOnes10 : yes (call Tryz.prog (Gt [keyL 14 10]) sumsFloatOnes 60 13 lawArgs .lf 0) = true := by kernel_rfl
theorem floatOnes11 : yes (call Tryz.prog (Gt [keyL 14 11]) sumsFloatOnes 60 13 lawArgs .lf 0) = true := by kernel_rfl

end Sx
end Go.Proofs.YtfdggebddcoeeaaGreatDoor
end
