/-
  Leaf functions of whole numbers: moves, by each number of places; bits of a byte; how many bits.
-/
import Derived.Test.YtfdggebddcoeeaaGreatDoorTyLf
set_option linter.unusedVariables false
set_option linter.unusedSimpArgs false
set_option maxRecDepth 100000
noncomputable section
namespace Go.Proofs.YtfdggebddcoeeaaGreatDoor
namespace Sx
open Go Go.RowKit

theorem bin8_11 : LeafB 107 8 11 ∧ LeafB 63 8 11 := leafB_keyed (by decide) (by decide) (by decide) rfl (by decide) (allN_ok (by kernel_rfl))
theorem bin8_12 : LeafB 107 8 12 ∧ LeafB 63 8 12 := leafB_keyed (by decide) (by decide) (by decide) rfl (by decide) (allN_ok (by kernel_rfl))
theorem bin8_13 : LeafB 107 8 13 ∧ LeafB 63 8 13 := leafB_keyed (by decide) (by decide) (by decide) rfl (by decide) (allN_ok (by kernel_rfl))
theorem bin16_11 : LeafB 107 16 11 ∧ LeafB 63 16 11 := leafB_keyed (by decide) (by decide) (by decide) rfl (by decide) (allN_ok (by kernel_rfl))
theorem bin16_12 : LeafB 107 16 12 ∧ LeafB 63 16 12 := leafB_keyed (by decide) (by decide) (by decide) rfl (by decide) (allN_ok (by kernel_rfl))
theorem bin16_13 : LeafB 107 16 13 ∧ LeafB 63 16 13 := leafB_keyed (by decide) (by decide) (by decide) rfl (by decide) (allN_ok (by kernel_rfl))

end Sx
end Go.Proofs.YtfdggebddcoeeaaGreatDoor
end
