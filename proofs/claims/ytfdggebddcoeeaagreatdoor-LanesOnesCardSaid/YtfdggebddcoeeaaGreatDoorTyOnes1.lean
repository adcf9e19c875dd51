/-
  LanesOnes: runs.
-/
import Derived.Test.YtfdggebddcoeeaaGreatDoorTyOnesA
set_option linter.unusedVariables false
set_option linter.unusedSimpArgs false
set_option maxRecDepth 100000
noncomputable section
namespace Go.Proofs.YtfdggebddcoeeaaGreatDoor
namespace Sx
open Go Go.RowKit

theorem ones0 : yes (call Tryz.prog (Gt [keyL 9 0]) sumsOnes 60 11 lawArgs .lf 0) = true := by kernel_rfl
theorem ones1 : yes (call Tryz.prog (Gt [keyL 9 1]) sumsOnes 60 11 lawArgs .lf 0) = true := by kernel_rfl
theorem ones2 : yes (call Tryz.prog (Gt [keyL 9 2]) sumsOnes 60 11 lawArgs .lf 0) = true := by kernel_rfl
theorem ones3 : yes (call Tryz.prog (Gt [keyL 9 3]) sumsOnes 60 11 lawArgs .lf 0) = true := by kernel_rfl
theorem ones4 : yes (call Tryz.prog (Gt [keyL 9 4]) sumsOnes 60 11 lawArgs .lf 0) = true := by kernel_rfl
theorem ones5 : yes (call Tryz.prog (Gt [keyL 9 5]) sumsOnes 60 11 lawArgs .lf 0) = true := by kernel_rfl
theorem ones6 : yes (call Tryz.prog (Gt [keyL 9 6]) sumsOnes 60 11 lawArgs .lf 0) = true := by kernel_rfl
theorem ones7 : yes (call Tryz.prog (Gt [keyL 9 7]) sumsOnes 60 11 lawArgs .lf 0) = true := by kernel_rfl
theorem ones8 : yes (call Tryz.prog (Gt [keyL 9 8]) sumsOnes 60 11 lawArgs .lf 0) = true := by kernel_rfl

end Sx
end Go.Proofs.YtfdggebddcoeeaaGreatDoor
end
