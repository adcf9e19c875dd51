/-
  LanesEnds: runs.
-/
import Derived.Test.YtfdggebddcoeeaaGreatDoorTyEndsA
set_option linter.unusedVariables false
set_option linter.unusedSimpArgs false
set_option maxRecDepth 100000
noncomputable section
namespace Go.Proofs.YtfdggebddcoeeaaGreatDoor
namespace Sx
open Go Go.RowKit

theorem ends7 : yes (call Tryz.prog (Gt [keyL 14 7]) sumsEnds 60 10 lawArgs .lf 0) = true := by kernel_rfl
theorem ends8 : yes (call Tryz.prog (Gt [keyL 14 8]) sumsEnds 60 10 lawArgs .lf 0) = true := by kernel_rfl
theorem ends9 : yes (call Tryz.prog (Gt [keyL 14 9]) sumsEnds 60 10 lawArgs .lf 0) = true := by kernel_rfl
theorem ends10 : yes (call Tryz.prog (Gt [keyL 14 10]) sumsEnds 60 10 lawArgs .lf 0) = true := by kernel_rfl
theorem ends11 : yes (call Tryz.prog (Gt [keyL 14 11]) sumsEnds 60 10 lawArgs .lf 0) = true := by kernel_rfl
theorem ends12 : yes (call Tryz.prog (Gt [keyL 14 12]) sumsEnds 60 10 lawArgs .lf 0) = true := by kernel_rfl
theorem ends13 : yes (call Tryz.prog (Gt [keyL 14 13]) sumsEnds 60 10 lawArgs .lf 0) = true := by kernel_rfl

end Sx
end Go.Proofs.YtfdggebddcoeeaaGreatDoor
end
