/-
  LanesStand: runs.
-/
import Derived.Test.YtfdggebddcoeeaaGreatDoorTyStandA
set_option linter.unusedVariables false
set_option linter.unusedSimpArgs false
set_option maxRecDepth 100000
noncomputable section
namespace Go.Proofs.YtfdggebddcoeeaaGreatDoor
namespace Sx
open Go Go.RowKit

theorem stand0 : yes (call Tryz.prog (Gt [keyL 36 0]) sumsStand 60 7 lawArgs .lf 0) = true := by kernel_rfl
theorem stand1 : yes (call Tryz.prog (Gt [keyL 36 1]) sumsStand 60 7 lawArgs .lf 0) = true := by kernel_rfl
theorem stand2 : yes (call Tryz.prog (Gt [keyL 36 2]) sumsStand 60 7 lawArgs .lf 0) = true := by kernel_rfl
theorem stand3 : yes (call Tryz.prog (Gt [keyL 36 3]) sumsStand 60 7 lawArgs .lf 0) = true := by kernel_rfl
theorem stand4 : yes (call Tryz.prog (Gt [keyL 36 4]) sumsStand 60 7 lawArgs .lf 0) = true := by kernel_rfl
theorem stand5 : yes (call Tryz.prog (Gt [keyL 36 5]) sumsStand 60 7 lawArgs .lf 0) = true := by kernel_rfl
theorem stand6 : yes (call Tryz.prog (Gt [keyL 36 6]) sumsStand 60 7 lawArgs .lf 0) = true := by kernel_rfl
theorem stand7 : yes (call Tryz.prog (Gt [keyL 36 7]) sumsStand 60 7 lawArgs .lf 0) = true := by kernel_rfl
theorem stand8 : yes (call Tryz.prog (Gt [keyL 36 8]) sumsStand 60 7 lawArgs .lf 0) = true := by kernel_rfl
theorem stand9 : yes (call Tryz.prog (Gt [keyL 36 9]) sumsStand 60 7 lawArgs .lf 0) = true := by kernel_rfl
theorem stand10 : yes (call Tryz.prog (Gt [keyL 36 10]) sumsStand 60 7 lawArgs .lf 0) = true := by kernel_rfl
theorem stand11 : yes (call Tryz.prog (Gt [keyL 36 11]) sumsStand 60 7 lawArgs .lf 0) = true := by kernel_rfl

end Sx
end Go.Proofs.YtfdggebddcoeeaaGreatDoor
end
