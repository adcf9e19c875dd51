/-
  LanesWidens: runs.
-/
import Derived.Test.YtfdggebddcoeeaaGreatDoorTyWidensA
set_option linter.unusedVariables false
set_option linter.unusedSimpArgs false
set_option maxRecDepth 100000
noncomputable section
namespace Go.Proofs.YtfdggebddcoeeaaGreatDoor
namespace Sx
open Go Go.RowKit

theorem widens8 : yes (call Tryz.prog (Gt [keyL 16 8]) sumsWidens 60 15 lawArgs .lf 0) = true := by kernel_rfl
theorem widens9 : yes (call Tryz.prog (Gt [keyL 16 9]) sumsWidens 60 15 lawArgs .lf 0) = true := by kernel_rfl
theorem widens10 : yes (call Tryz.prog (Gt [keyL 16 10]) sumsWidens 60 15 lawArgs .lf 0) = true := by kernel_rfl
theorem widens11 : yes (call Tryz.prog (Gt [keyL 16 11]) sumsWidens 60 15 lawArgs .lf 0) = true := by kernel_rfl
theorem widens12 : yes (call Tryz.prog (Gt [keyL 16 12]) sumsWidens 60 15 lawArgs .lf 0) = true := by kernel_rfl
theorem widens13 : yes (call Tryz.prog (Gt [keyL 16 13]) sumsWidens 60 15 lawArgs .lf 0) = true := by kernel_rfl
theorem widens14 : yes (call Tryz.prog (Gt [keyL 16 14]) sumsWidens 60 15 lawArgs .lf 0) = true := by kernel_rfl
theorem widens15 : yes (call Tryz.prog (Gt [keyL 16 15]) sumsWidens 60 15 lawArgs .lf 0) = true := by kernel_rfl

end Sx
end Go.Proofs.YtfdggebddcoeeaaGreatDoor
end
