/-
  Facts on the program.
-/
import Derived.Test.YtfdggebddcoeeaaGreatDoorTyY
set_option linter.unusedVariables false
set_option linter.unusedSimpArgs false
noncomputable section
namespace Go.Proofs.YtfdggebddcoeeaaGreatDoor
namespace Sx
open Go Go.RowKit

theorem okAll : Tryz.prog.funcs.all okFn = true := by kernel_rfl
theorem okP : OkP Tryz.prog := fun f fn hf => Array.all_eq_true_iff_forall_mem.1 okAll fn (Array.mem_of_getElem? hf)
theorem mixed : Tryz.prog.follows .mixedOrders = true := by kernel_rfl

end Sx
end Go.Proofs.YtfdggebddcoeeaaGreatDoor
end
