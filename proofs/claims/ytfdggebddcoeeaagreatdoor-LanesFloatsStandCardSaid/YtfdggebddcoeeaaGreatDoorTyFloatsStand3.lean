/-
  LanesFloatsStand: runs.
-/
import Derived.Test.YtfdggebddcoeeaaGreatDoorTyFloatsStandA
set_option linter.unusedVariables false
set_option linter.unusedSimpArgs false
set_option maxRecDepth 100000
noncomputable section
namespace Go.Proofs.YtfdggebddcoeeaaGreatDoor
namespace Sx
open Go Go.RowKit

theorem fstand8 : yes (call Tryz.prog (Gt [keyL 12 8]) sumsFloatsStand 60 8 lawArgs .lf 0) = true := by kernel_rfl
theorem fstand9 : yes (call Tryz.prog (Gt [keyL 12 9]) sumsFloatsStand 60 8 lawArgs .lf 0) = true := by kernel_rfl
theorem fstand10 : yes (call Tryz.prog (Gt [keyL 12 10]) sumsFloatsStand 60 8 lawArgs .lf 0) = true := by kernel_rfl
theorem fstand11 : yes (call Tryz.prog (Gt [keyL 12 11]) sumsFloatsStand 60 8 lawArgs .lf 0) = true := by kernel_rfl

end Sx
end Go.Proofs.YtfdggebddcoeeaaGreatDoor
end
