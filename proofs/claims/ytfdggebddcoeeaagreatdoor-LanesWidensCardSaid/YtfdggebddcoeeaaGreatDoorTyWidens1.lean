/-
  LanesWidens: runs.
-/
import Derived.Test.YtfdggebddcoeeaaGreatDoorTyWidensA
set_option linter.unusedVariables false
set_option linter.unusedSimpArgs false
set_option maxRecDepth 100000
noncomputable section
namespace Go.Proofs.YtfdggebddcoeeaaGreatDoor
namespace Sx
open Go Go.RowKit

theorem widens0 : yes (call Tryz.prog (Gt [keyL 16 0]) sumsWidens 60 15 lawArgs .lf 0) = true := by kernel_rfl
theorem widens1 : yes (call Tryz.prog (Gt [keyL 16 1]) sumsWidens 60 15 lawArgs .lf 0) = true := by kernel_rfl
theorem widens2 : yes (call Tryz.prog (Gt [keyL 16 2]) sumsWidens 60 15 lawArgs .lf 0) = true := by kernel_rfl
theorem widens3 : yes (call Tryz.prog (Gt [keyL 16 3]) sumsWidens 60 15 lawArgs .lf 0) = true := by kernel_rfl
theorem widens4 : yes (call Tryz.prog (Gt [keyL 16 4]) sumsWidens 60 15 lawArgs .lf 0) = true := by kernel_rfl
theorem widens5 : yes (call Tryz.prog (Gt [keyL 16 5]) sumsWidens 60 15 lawArgs .lf 0) = true := by kernel_rfl
theorem widens6 : yes (call Tryz.prog (Gt [keyL 16 6]) sumsWidens 60 15 lawArgs .lf 0) = true := by kernel_rfl
theorem widens7 : yes (call Tryz.prog (Gt [keyL 16 7]) sumsWidens 60 15 lawArgs .lf 0) = true := by kernel_rfl

end Sx
end Go.Proofs.YtfdggebddcoeeaaGreatDoor
end
