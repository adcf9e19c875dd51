/-
  LanesStand: runs.
-/
import Derived.Test.YtfdggebddcoeeaaGreatDoorTyStandA
set_option linter.unusedVariables false
set_option linter.unusedSimpArgs false
set_option maxRecDepth 100000
noncomputable section
namespace Go.Proofs.YtfdggebddcoeeaaGreatDoor
namespace Sx
open Go Go.RowKit

theorem stand24 : yes (call Tryz.prog (Gt [keyL 36 24]) sumsStand 60 7 lawArgs .lf 0) = true := by kernel_rfl
theorem stand25 : yes (call Tryz.prog (Gt [keyL 36 25]) sumsStand 60 7 lawArgs .lf 0) = true := by kernel_rfl
theorem stand26 : yes (call Tryz.prog (Gt [keyL 36 26]) sumsStand 60 7 lawArgs .lf 0) = true := by kernel_rfl
theorem stand27 : yes (call Tryz.prog (Gt [keyL 36 27]) sumsStand 60 7 lawArgs .lf 0) = true := by kernel_rfl
theorem stand28 : yes (call Tryz.prog (Gt [keyL 36 28]) sumsStand 60 7 lawArgs .lf 0) = true := by kernel_rfl
theorem stand29 : yes (call Tryz.prog (Gt [keyL 36 29]) sumsStand 60 7 lawArgs .lf 0) = true := by kernel_rfl
theorem stand30 : yes (call Tryz.prog (Gt [keyL 36 30]) sumsStand 60 7 lawArgs .lf 0) = true := by kernel_rfl
theorem stand31 : yes (call Tryz.prog (Gt [keyL 36 31]) sumsStand 60 7 lawArgs .lf 0) = true := by kernel_rfl
theorem stand32 : yes (call Tryz.prog (Gt [keyL 36 32]) sumsStand 60 7 lawArgs .lf 0) = true := by kernel_rfl
theorem stand33 : yes (call Tryz.prog (Gt [keyL 36 33]) sumsStand 60 7 lawArgs .lf 0) = true := by kernel_rfl
theorem stand34 : yes (call Tryz.prog (Gt [keyL 36 34]) sumsStand 60 7 lawArgs .lf 0) = true := by kernel_rfl
theorem stand35 : yes (call Tryz.prog (Gt [keyL 36 35]) sumsStand 60 7 lawArgs .lf 0) = true := by kernel_rfl

end Sx
end Go.Proofs.YtfdggebddcoeeaaGreatDoor
end
