/-
  LanesFloatsStand: runs.
-/
import Derived.Test.YtfdggebddcoeeaaGreatDoorTyFloatsStandA
set_option linter.unusedVariables false
set_option linter.unusedSimpArgs false
set_option maxRecDepth 100000
noncomputable section
namespace Go.Proofs.YtfdggebddcoeeaaGreatDoor
namespace Sx
open Go Go.RowKit

theorem fstand0 : yes (call Tryz.prog (Gt [keyL 12 0]) sumsFloatsStand 60 8 lawArgs .lf 0) = true := by kernel_rfl
theorem fstand1 : yes (call Tryz.prog (Gt [keyL 12 1]) sumsFloatsStand 60 8 lawArgs .lf 0) = true := by kernel_rfl
theorem fstand2 : yes (call Tryz.prog (Gt [keyL 12 2]) sumsFloatsStand 60 8 lawArgs .lf 0) = true := by kernel_rfl
theorem fstand3 : yes (call Tryz.prog (Gt [keyL 12 3]) sumsFloatsStand 60 8 lawArgs .lf 0) = true := by kernel_rfl

end Sx
end Go.Proofs.YtfdggebddcoeeaaGreatDoor
end
