/-
  LanesEnds: runs.
-/
import Derived.Test.YtfdggebddcoeeaaGreatDoorTyEndsA
set_option linter.unusedVariables false
set_option linter.unusedSimpArgs false
set_option maxRecDepth 100000
noncomputable section
namespace Go.Proofs.YtfdggebddcoeeaaGreatDoor
namespace Sx
open Go Go.RowKit

theorem ends0 : yes (call Tryz.prog (Gt [keyL 14 0]) sumsEnds 60 10 lawArgs .lf 0) = true := by kernel_rfl
theorem ends1 : yes (call Tryz.prog (Gt [keyL 14 1]) sumsEnds 60 10 lawArgs .lf 0) = true := by kernel_rfl
theorem ends2 : yes (call Tryz.prog (Gt [keyL 14 2]) sumsEnds 60 10 lawArgs .lf 0) = true := by kernel_rfl
theorem ends3 : yes (call Tryz.prog (Gt [keyL 14 3]) sumsEnds 60 10 lawArgs .lf 0) = true := by kernel_rfl
theorem ends4 : yes (call Tryz.prog (Gt [keyL 14 4]) sumsEnds 60 10 lawArgs .lf 0) = true := by kernel_rfl
theorem ends5 : yes (call Tryz.prog (Gt [keyL 14 5]) sumsEnds 60 10 lawArgs .lf 0) = true := by kernel_rfl
theorem ends6 : yes (call Tryz.prog (Gt [keyL 14 6]) sumsEnds 60 10 lawArgs .lf 0) = true := by kernel_rfl

end Sx
end Go.Proofs.YtfdggebddcoeeaaGreatDoor
end
