/-
  LanesFloats: runs.
-/
import Derived.Test.YtfdggebddcoeeaaGreatDoorFbPart7
set_option linter.unusedVariables false
set_option linter.unusedSimpArgs false
set_option maxRecDepth 100000
noncomputable section
namespace Go.Proofs.YtfdggebddcoeeaaGreatDoor
namespace Sx
open Go Go.RowKit

theorem floats0 : yes (call Tryz.prog (Gt [keyL 16 0]) sumsFloats 60 12 lawArgs .lf 0) = true := by kernel_rfl
theorem floats1 : yes (call Tryz.prog (Gt [keyL 16 1]) sumsFloats 60 12 lawArgs .lf 0) = true := by kernel_rfl
theorem floats2 : yes (call Tryz.prog (Gt [keyL 16 2]) sumsFloats 60 12 lawArgs .lf 0) = true := by kernel_rfl
theorem floats3 : yes (call Tryz.prog (Gt [keyL 16 3]) sumsFloats 60 12 lawArgs .lf 0) = true := by kernel_rfl

end Sx
end Go.Proofs.YtfdggebddcoeeaaGreatDoor
end
