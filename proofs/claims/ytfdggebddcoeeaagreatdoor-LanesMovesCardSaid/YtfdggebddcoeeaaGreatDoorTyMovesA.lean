/-
  LanesMoves: the summaries of its leaf functions.
-/
import Derived.Test.YtfdggebddcoeeaaGreatDoorTyLw
import Derived.Test.YtfdggebddcoeeaaGreatDoorTyLcA
import Derived.Test.YtfdggebddcoeeaaGreatDoorTyLcB
import Derived.Test.YtfdggebddcoeeaaGreatDoorTyLcC11
import Derived.Test.YtfdggebddcoeeaaGreatDoorTyLcC12
import Derived.Test.YtfdggebddcoeeaaGreatDoorTyLcC13
set_option linter.unusedVariables false
set_option linter.unusedSimpArgs false
set_option maxRecDepth 100000
noncomputable section
namespace Go.Proofs.YtfdggebddcoeeaaGreatDoor
namespace Sx
open Go Go.RowKit

def movesBin : List (Nat × Nat) := [(8, 11), (8, 12), (8, 13), (16, 11), (16, 12), (16, 13), (32, 11), (32, 12), (32, 13), (64, 11), (64, 12), (64, 13)]
theorem movesBin_small : small movesBin := by
  intro p hp
  simp only [movesBin, List.mem_cons, List.not_mem_nil, or_false] at hp
  rcases hp with rfl | rfl | rfl | rfl | rfl | rfl | rfl | rfl | rfl | rfl | rfl | rfl <;> decide
theorem movesBin_107 : ∀ p ∈ movesBin, LeafB 107 p.1 p.2 := by
  intro p hp
  simp only [movesBin, List.mem_cons, List.not_mem_nil, or_false] at hp
  rcases hp with rfl | rfl | rfl | rfl | rfl | rfl | rfl | rfl | rfl | rfl | rfl | rfl
  · exact bin8_11.1
  · exact bin8_12.1
  · exact bin8_13.1
  · exact bin16_11.1
  · exact bin16_12.1
  · exact bin16_13.1
  · exact bin32_11.1
  · exact bin32_12.1
  · exact bin32_13.1
  · exact bin64_11.1
  · exact bin64_12.1
  · exact bin64_13.1
theorem movesBin_63 : ∀ p ∈ movesBin, LeafB 63 p.1 p.2 := by
  intro p hp
  simp only [movesBin, List.mem_cons, List.not_mem_nil, or_false] at hp
  rcases hp with rfl | rfl | rfl | rfl | rfl | rfl | rfl | rfl | rfl | rfl | rfl | rfl
  · exact bin8_11.2
  · exact bin8_12.2
  · exact bin8_13.2
  · exact bin16_11.2
  · exact bin16_12.2
  · exact bin16_13.2
  · exact bin32_11.2
  · exact bin32_12.2
  · exact bin32_13.2
  · exact bin64_11.2
  · exact bin64_12.2
  · exact bin64_13.2
def sumsMoves : Tr Sm := ((sumsA).set 63 (smBin movesBin)).set 107 (smBin movesBin)
theorem sumsMoves_ok (va : Nat → Int) (keys : List (SE × SE)) (spl : List (SE × SE × Nat)) : SumsOk (EE va) Tryz.prog (Gu keys spl) sumsMoves := sums_add (sums_add (sumsA_ok) (smBin_ok movesBin_small movesBin_63)) (smBin_ok movesBin_small movesBin_107)

end Sx
end Go.Proofs.YtfdggebddcoeeaaGreatDoor
end
