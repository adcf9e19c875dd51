/-
  LanesReplaces: runs.
-/
import Derived.Test.YtfdggebddcoeeaaGreatDoorTyReplacesA
set_option linter.unusedVariables false
set_option linter.unusedSimpArgs false
set_option maxRecDepth 100000
noncomputable section
namespace Go.Proofs.YtfdggebddcoeeaaGreatDoor
namespace Sx
open Go Go.RowKit

theorem rep2_0 : yes (call Tryz.prog (Gt (repK 2 0)) sumsA 60 3 repArgs .lf 0) = true := by kernel_rfl
theorem rep2_1 : yes (call Tryz.prog (Gt (repK 2 1)) sumsA 60 3 repArgs .lf 0) = true := by kernel_rfl
theorem rep2_2 : yes (call Tryz.prog (Gt (repK 2 2)) sumsA 60 3 repArgs .lf 0) = true := by kernel_rfl
theorem rep2_3 : yes (call Tryz.prog (Gt (repK 2 3)) sumsA 60 3 repArgs .lf 0) = true := by kernel_rfl
theorem rep3_0 : yes (call Tryz.prog (Gt (repK 3 0)) sumsA 60 3 repArgs .lf 0) = true := by kernel_rfl
theorem rep3_1 : yes (call Tryz.prog (Gt (repK 3 1)) sumsA 60 3 repArgs .lf 0) = true := by kernel_rfl

end Sx
end Go.Proofs.YtfdggebddcoeeaaGreatDoor
end
