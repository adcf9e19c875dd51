/-
  LanesProducts: runs.
-/
import Derived.Test.YtfdggebddcoeeaaGreatDoorTyProductsA
set_option linter.unusedVariables false
set_option linter.unusedSimpArgs false
set_option maxRecDepth 100000
noncomputable section
namespace Go.Proofs.YtfdggebddcoeeaaGreatDoor
namespace Sx
open Go Go.RowKit

theorem products0 : yes (call Tryz.prog (Gt [keyL 13 0]) sumsProducts 60 16 lawArgs .lf 0) = true := by kernel_rfl
theorem products1 : yes (call Tryz.prog (Gt [keyL 13 1]) sumsProducts 60 16 lawArgs .lf 0) = true := by kernel_rfl
theorem products2 : yes (call Tryz.prog (Gt [keyL 13 2]) sumsProducts 60 16 lawArgs .lf 0) = true := by kernel_rfl
theorem products3 : yes (call Tryz.prog (Gt [keyL 13 3]) sumsProducts 60 16 lawArgs .lf 0) = true := by kernel_rfl
theorem products4 : yes (call Tryz.prog (Gt [keyL 13 4]) sumsProducts 60 16 lawArgs .lf 0) = true := by kernel_rfl
theorem products5 : yes (call Tryz.prog (Gt [keyL 13 5]) sumsProducts 60 16 lawArgs .lf 0) = true := by kernel_rfl
theorem products6 : yes (call Tryz.prog (Gt [keyL 13 6]) sumsProducts 60 16 lawArgs .lf 0) = true := by kernel_rfl

end Sx
end Go.Proofs.YtfdggebddcoeeaaGreatDoor
end
