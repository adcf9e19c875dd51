/-
  LanesReplaces: runs.
-/
import Derived.Test.YtfdggebddcoeeaaGreatDoorTyReplacesA
set_option linter.unusedVariables false
set_option linter.unusedSimpArgs false
set_option maxRecDepth 100000
noncomputable section
namespace Go.Proofs.YtfdggebddcoeeaaGreatDoor
namespace Sx
open Go Go.RowKit

theorem rep0_0 : yes (call Tryz.prog (Gt (repK 0 0)) sumsA 60 3 repArgs .lf 0) = true := by kernel_rfl
theorem rep0_1 : yes (call Tryz.prog (Gt (repK 0 1)) sumsA 60 3 repArgs .lf 0) = true := by kernel_rfl
theorem rep0_2 : yes (call Tryz.prog (Gt (repK 0 2)) sumsA 60 3 repArgs .lf 0) = true := by kernel_rfl
theorem rep0_3 : yes (call Tryz.prog (Gt (repK 0 3)) sumsA 60 3 repArgs .lf 0) = true := by kernel_rfl
theorem rep0_4 : yes (call Tryz.prog (Gt (repK 0 4)) sumsA 60 3 repArgs .lf 0) = true := by kernel_rfl
theorem rep0_5 : yes (call Tryz.prog (Gt (repK 0 5)) sumsA 60 3 repArgs .lf 0) = true := by kernel_rfl
theorem rep0_6 : yes (call Tryz.prog (Gt (repK 0 6)) sumsA 60 3 repArgs .lf 0) = true := by kernel_rfl
theorem rep0_7 : yes (call Tryz.prog (Gt (repK 0 7)) sumsA 60 3 repArgs .lf 0) = true := by kernel_rfl

end Sx
end Go.Proofs.YtfdggebddcoeeaaGreatDoor
end
