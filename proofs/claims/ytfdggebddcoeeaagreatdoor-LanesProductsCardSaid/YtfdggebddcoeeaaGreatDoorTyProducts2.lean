/-
  LanesProducts: runs.
-/
import Derived.Test.YtfdggebddcoeeaaGreatDoorTyProductsA
set_option linter.unusedVariables false
set_option linter.unusedSimpArgs false
set_option maxRecDepth 100000
noncomputable section
namespace Go.Proofs.YtfdggebddcoeeaaGreatDoor
namespace Sx
open Go Go.RowKit

theorem products7 : yes (call Tryz.prog (Gt [keyL 13 7]) sumsProducts 60 16 lawArgs .lf 0) = true := by kernel_rfl
theorem products8 : yes (call Tryz.prog (Gt [keyL 13 8]) sumsProducts 60 16 lawArgs .lf 0) = true := by kernel_rfl
theorem products9 : yes (call Tryz.prog (Gt [keyL 13 9]) sumsProducts 60 16 lawArgs .lf 0) = true := by kernel_rfl
theorem products10 : yes (call Tryz.prog (Gt [keyL 13 10]) sumsProducts 60 16 lawArgs .lf 0) = true := by kernel_rfl
theorem products11 : yes (call Tryz.prog (Gt [keyL 13 11]) sumsProducts 60 16 lawArgs .lf 0) = true := by kernel_rfl
theorem products12 : yes (call Tryz.prog (Gt [keyL 13 12]) sumsProducts 60 16 lawArgs .lf 0) = true := by kernel_rfl

end Sx
end Go.Proofs.YtfdggebddcoeeaaGreatDoor
end
