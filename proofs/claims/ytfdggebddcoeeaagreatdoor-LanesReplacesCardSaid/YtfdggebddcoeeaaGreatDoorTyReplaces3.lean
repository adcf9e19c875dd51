/-
  LanesReplaces: runs.
-/
import Derived.Test.YtfdggebddcoeeaaGreatDoorTyReplacesA
set_option linter.unusedVariables false
set_option linter.unusedSimpArgs false
set_option maxRecDepth 100000
noncomputable section
namespace Go.Proofs.YtfdggebddcoeeaaGreatDoor
namespace Sx
open Go Go.RowKit

theorem rep1_0 : yes (call Tryz.prog (Gt (repK 1 0)) sumsA 60 3 repArgs .lf 0) = true := by kernel_rfl
theorem rep1_1 : yes (call Tryz.prog (Gt (repK 1 1)) sumsA 60 3 repArgs .lf 0) = true := by kernel_rfl
theorem rep1_2 : yes (call Tryz.prog (Gt (repK 1 2)) sumsA 60 3 repArgs .lf 0) = true := by kernel_rfl
theorem rep1_3 : yes (call Tryz.prog (Gt (repK 1 3)) sumsA 60 3 repArgs .lf 0) = true := by kernel_rfl
theorem rep1_4 : yes (call Tryz.prog (Gt (repK 1 4)) sumsA 60 3 repArgs .lf 0) = true := by kernel_rfl
theorem rep1_5 : yes (call Tryz.prog (Gt (repK 1 5)) sumsA 60 3 repArgs .lf 0) = true := by kernel_rfl
theorem rep1_6 : yes (call Tryz.prog (Gt (repK 1 6)) sumsA 60 3 repArgs .lf 0) = true := by kernel_rfl
theorem rep1_7 : yes (call Tryz.prog (Gt (repK 1 7)) sumsA 60 3 repArgs .lf 0) = true := by kernel_rfl

end Sx
end Go.Proofs.YtfdggebddcoeeaaGreatDoor
end
