/-
  LanesEnds: the summaries of its leaf functions.
-/
import Derived.Test.YtfdggebddcoeeaaGreatDoorTyLw
import Derived.Test.YtfdggebddcoeeaaGreatDoorTyLb
set_option linter.unusedVariables false
set_option linter.unusedSimpArgs false
set_option maxRecDepth 100000
noncomputable section
namespace Go.Proofs.YtfdggebddcoeeaaGreatDoor
namespace Sx
open Go Go.RowKit

def endsBin : List (Nat × Nat) := [(8, 20), (8, 21), (8, 22), (8, 23), (8, 24), (16, 20), (16, 21), (16, 22), (16, 23), (16, 24), (32, 20), (32, 21), (32, 22), (32, 23)]
theorem endsBin_small : small endsBin := by
  intro p hp
  simp only [endsBin, List.mem_cons, List.not_mem_nil, or_false] at hp
  rcases hp with rfl | rfl | rfl | rfl | rfl | rfl | rfl | rfl | rfl | rfl | rfl | rfl | rfl | rfl <;> decide
theorem endsBin_107 : ∀ p ∈ endsBin, LeafB 107 p.1 p.2 := by
  intro p hp
  simp only [endsBin, List.mem_cons, List.not_mem_nil, or_false] at hp
  rcases hp with rfl | rfl | rfl | rfl | rfl | rfl | rfl | rfl | rfl | rfl | rfl | rfl | rfl | rfl
  · exact bin8_20.1
  · exact bin8_21.1
  · exact bin8_22.1
  · exact bin8_23.1
  · exact bin8_24.1
  · exact bin16_20.1
  · exact bin16_21.1
  · exact bin16_22.1
  · exact bin16_23.1
  · exact bin16_24.1
  · exact bin32_20.1
  · exact bin32_21.1
  · exact bin32_22.1
  · exact bin32_23.1
theorem endsBin_63 : ∀ p ∈ endsBin, LeafB 63 p.1 p.2 := by
  intro p hp
  simp only [endsBin, List.mem_cons, List.not_mem_nil, or_false] at hp
  rcases hp with rfl | rfl | rfl | rfl | rfl | rfl | rfl | rfl | rfl | rfl | rfl | rfl | rfl | rfl
  · exact bin8_20.2
  · exact bin8_21.2
  · exact bin8_22.2
  · exact bin8_23.2
  · exact bin8_24.2
  · exact bin16_20.2
  · exact bin16_21.2
  · exact bin16_22.2
  · exact bin16_23.2
  · exact bin16_24.2
  · exact bin32_20.2
  · exact bin32_21.2
  · exact bin32_22.2
  · exact bin32_23.2
def sumsEnds : Tr Sm := ((sumsA).set 63 (smBin endsBin)).set 107 (smBin endsBin)
theorem sumsEnds_ok (va : Nat → Int) (keys : List (SE × SE)) (spl : List (SE × SE × Nat)) : SumsOk (EE va) Tryz.prog (Gu keys spl) sumsEnds := sums_add (sums_add (sumsA_ok) (smBin_ok endsBin_small endsBin_63)) (smBin_ok endsBin_small endsBin_107)

end Sx
end Go.Proofs.YtfdggebddcoeeaaGreatDoor
end
