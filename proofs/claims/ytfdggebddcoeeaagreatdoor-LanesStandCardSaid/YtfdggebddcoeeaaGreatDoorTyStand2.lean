/-
  LanesStand: runs.
-/
import Derived.Test.YtfdggebddcoeeaaGreatDoorTyStandA
set_option linter.unusedVariables false
set_option linter.unusedSimpArgs false
set_option maxRecDepth 100000
noncomputable section
namespace Go.Proofs.YtfdggebddcoeeaaGreatDoor
namespace Sx
open Go Go.RowKit

theorem stand12 : yes (call Tryz.prog (Gt [keyL 36 12]) sumsStand 60 7 lawArgs .lf 0) = true := by kernel_rfl
theorem stand13 : yes (call Tryz.prog (Gt [keyL 36 13]) sumsStand 60 7 lawArgs .lf 0) = true := by kernel_rfl
theorem stand14 : yes (call Tryz.prog (Gt [keyL 36 14]) sumsStand 60 7 lawArgs .lf 0) = true := by kernel_rfl
theorem stand15 : yes (call Tryz.prog (Gt [keyL 36 15]) sumsStand 60 7 lawArgs .lf 0) = true := by kernel_rfl
theorem stand16 : yes (call Tryz.prog (Gt [keyL 36 16]) sumsStand 60 7 lawArgs .lf 0) = true := by kernel_rfl
theorem stand17 : yes (call Tryz.prog (Gt [keyL 36 17]) sumsStand 60 7 lawArgs .lf 0) = true := by kernel_rfl
theorem stand18 : yes (call Tryz.prog (Gt [keyL 36 18]) sumsStand 60 7 lawArgs .lf 0) = true := by kernel_rfl
theorem stand19 : yes (call Tryz.prog (Gt [keyL 36 19]) sumsStand 60 7 lawArgs .lf 0) = true := by kernel_rfl
theorem stand20 : yes (call Tryz.prog (Gt [keyL 36 20]) sumsStand 60 7 lawArgs .lf 0) = true := by kernel_rfl
theorem stand21 : yes (call Tryz.prog (Gt [keyL 36 21]) sumsStand 60 7 lawArgs .lf 0) = true := by kernel_rfl
theorem stand22 : yes (call Tryz.prog (Gt [keyL 36 22]) sumsStand 60 7 lawArgs .lf 0) = true := by kernel_rfl
theorem stand23 : yes (call Tryz.prog (Gt [keyL 36 23]) sumsStand 60 7 lawArgs .lf 0) = true := by kernel_rfl

end Sx
end Go.Proofs.YtfdggebddcoeeaaGreatDoor
end
