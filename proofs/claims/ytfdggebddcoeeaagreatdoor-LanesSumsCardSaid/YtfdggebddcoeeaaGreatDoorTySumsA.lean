/-
  LanesSums: the summaries of its leaf functions.
-/
import Derived.Test.YtfdggebddcoeeaaGreatDoorTyLw
import Derived.Test.YtfdggebddcoeeaaGreatDoorTyLb
import Derived.Test.YtfdggebddcoeeaaGreatDoorTyLm
set_option linter.unusedVariables false
set_option linter.unusedSimpArgs false
set_option maxRecDepth 100000
noncomputable section
namespace Go.Proofs.YtfdggebddcoeeaaGreatDoor
namespace Sx
open Go Go.RowKit

def sumsBin : List (Nat × Nat) := [(8, 1), (8, 2), (8, 16), (8, 17), (8, 18), (8, 19), (16, 1), (16, 2), (16, 16), (16, 17), (16, 18), (16, 19), (16, 25), (32, 1), (32, 2), (64, 1), (64, 2), (16, 3), (32, 3), (64, 3)]
theorem sumsBin_small : small sumsBin := by
  intro p hp
  simp only [sumsBin, List.mem_cons, List.not_mem_nil, or_false] at hp
  rcases hp with rfl | rfl | rfl | rfl | rfl | rfl | rfl | rfl | rfl | rfl | rfl | rfl | rfl | rfl | rfl | rfl | rfl | rfl | rfl | rfl <;> decide
theorem sumsBin_107 : ∀ p ∈ sumsBin, LeafB 107 p.1 p.2 := by
  intro p hp
  simp only [sumsBin, List.mem_cons, List.not_mem_nil, or_false] at hp
  rcases hp with rfl | rfl | rfl | rfl | rfl | rfl | rfl | rfl | rfl | rfl | rfl | rfl | rfl | rfl | rfl | rfl | rfl | rfl | rfl | rfl
  · exact bin8_1.1
  · exact bin8_2.1
  · exact bin8_16.1
  · exact bin8_17.1
  · exact bin8_18.1
  · exact bin8_19.1
  · exact bin16_1.1
  · exact bin16_2.1
  · exact bin16_16.1
  · exact bin16_17.1
  · exact bin16_18.1
  · exact bin16_19.1
  · exact bin16_25.1
  · exact bin32_1.1
  · exact bin32_2.1
  · exact bin64_1.1
  · exact bin64_2.1
  · exact bin16_3.1
  · exact bin32_3.1
  · exact bin64_3.1
theorem sumsBin_63 : ∀ p ∈ sumsBin, LeafB 63 p.1 p.2 := by
  intro p hp
  simp only [sumsBin, List.mem_cons, List.not_mem_nil, or_false] at hp
  rcases hp with rfl | rfl | rfl | rfl | rfl | rfl | rfl | rfl | rfl | rfl | rfl | rfl | rfl | rfl | rfl | rfl | rfl | rfl | rfl | rfl
  · exact bin8_1.2
  · exact bin8_2.2
  · exact bin8_16.2
  · exact bin8_17.2
  · exact bin8_18.2
  · exact bin8_19.2
  · exact bin16_1.2
  · exact bin16_2.2
  · exact bin16_16.2
  · exact bin16_17.2
  · exact bin16_18.2
  · exact bin16_19.2
  · exact bin16_25.2
  · exact bin32_1.2
  · exact bin32_2.2
  · exact bin64_1.2
  · exact bin64_2.2
  · exact bin16_3.2
  · exact bin32_3.2
  · exact bin64_3.2
def sumsSums : Tr Sm := ((sumsA).set 63 (smBin sumsBin)).set 107 (smBin sumsBin)
theorem sumsSums_ok (va : Nat → Int) (keys : List (SE × SE)) (spl : List (SE × SE × Nat)) : SumsOk (EE va) Tryz.prog (Gu keys spl) sumsSums := sums_add (sums_add (sumsA_ok) (smBin_ok sumsBin_small sumsBin_63)) (smBin_ok sumsBin_small sumsBin_107)

end Sx
end Go.Proofs.YtfdggebddcoeeaaGreatDoor
end
