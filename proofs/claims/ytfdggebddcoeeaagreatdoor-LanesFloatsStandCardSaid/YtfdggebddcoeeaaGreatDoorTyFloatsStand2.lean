/-
  LanesFloatsStand: runs.
-/
import Derived.Test.YtfdggebddcoeeaaGreatDoorTyFloatsStandA
set_option linter.unusedVariables false
set_option linter.unusedSimpArgs false
set_option maxRecDepth 100000
noncomputable section
namespace Go.Proofs.YtfdggebddcoeeaaGreatDoor
namespace Sx
open Go Go.RowKit

theorem fstand4 : yes (call Tryz.prog (Gt [keyL 12 4]) sumsFloatsStand 60 8 lawArgs .lf 0) = true := by kernel_rfl
theorem fstand5 : yes (call Tryz.prog (Gt [keyL 12 5]) sumsFloatsStand 60 8 lawArgs .lf 0) = true := by kernel_rfl
theorem fstand6 : yes (call Tryz.prog (Gt [keyL 12 6]) sumsFloatsStand 60 8 lawArgs .lf 0) = true := by kernel_rfl
theorem fstand7 : yes (call Tryz.prog (Gt [keyL 12 7]) sumsFloatsStand 60 8 lawArgs .lf 0) = true := by kernel_rfl

end Sx
end Go.Proofs.YtfdggebddcoeeaaGreatDoor
end
