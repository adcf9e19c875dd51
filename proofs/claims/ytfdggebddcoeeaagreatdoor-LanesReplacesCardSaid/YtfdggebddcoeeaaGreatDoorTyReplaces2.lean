/-
  LanesReplaces: runs.
-/
import Derived.Test.YtfdggebddcoeeaaGreatDoorTyReplacesA
set_option linter.unusedVariables false
set_option linter.unusedSimpArgs false
set_option maxRecDepth 100000
noncomputable section
namespace Go.Proofs.YtfdggebddcoeeaaGreatDoor
namespace Sx
open Go Go.RowKit

theorem rep0_8 : yes (call Tryz.prog (Gt (repK 0 8)) sumsA 60 3 repArgs .lf 0) = true := by kernel_rfl
theorem rep0_9 : yes (call Tryz.prog (Gt (repK 0 9)) sumsA 60 3 repArgs .lf 0) = true := by kernel_rfl
theorem rep0_10 : yes (call Tryz.prog (Gt (repK 0 10)) sumsA 60 3 repArgs .lf 0) = true := by kernel_rfl
theorem rep0_11 : yes (call Tryz.prog (Gt (repK 0 11)) sumsA 60 3 repArgs .lf 0) = true := by kernel_rfl
theorem rep0_12 : yes (call Tryz.prog (Gt (repK 0 12)) sumsA 60 3 repArgs .lf 0) = true := by kernel_rfl
theorem rep0_13 : yes (call Tryz.prog (Gt (repK 0 13)) sumsA 60 3 repArgs .lf 0) = true := by kernel_rfl
theorem rep0_14 : yes (call Tryz.prog (Gt (repK 0 14)) sumsA 60 3 repArgs .lf 0) = true := by kernel_rfl
theorem rep0_15 : yes (call Tryz.prog (Gt (repK 0 15)) sumsA 60 3 repArgs .lf 0) = true := by kernel_rfl

end Sx
end Go.Proofs.YtfdggebddcoeeaaGreatDoor
end
