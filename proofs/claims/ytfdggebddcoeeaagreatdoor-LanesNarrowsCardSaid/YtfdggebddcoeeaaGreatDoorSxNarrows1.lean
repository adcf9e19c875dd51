/-
  LanesNarrows: runs.
-/
import Derived.Test.YtfdggebddcoeeaaGreatDoorSxNarrowsA
set_option linter.unusedVariables false
set_option linter.unusedSimpArgs false
set_option maxRecDepth 100000
noncomputable section
namespace Go.Proofs.YtfdggebddcoeeaaGreatDoor
namespace Sx
open Go Go.RowKit

theorem narrows0 : yes (call Tryz.prog (Gt [keyL 4 0]) sumsNarrows 60 14 lawArgs .lf 0) = true := by kernel_rfl
theorem narrows1 : yes (call Tryz.prog (Gt [keyL 4 1]) sumsNarrows 60 14 lawArgs .lf 0) = true := by kernel_rfl
theorem narrows2 : yes (call Tryz.prog (Gt [keyL 4 2]) sumsNarrows 60 14 lawArgs .lf 0) = true := by kernel_rfl
theorem narrows3 : yes (call Tryz.prog (Gt [keyL 4 3]) sumsNarrows 60 14 lawArgs .lf 0) = true := by kernel_rfl

end Sx
end Go.Proofs.YtfdggebddcoeeaaGreatDoor
end
