/-
  LanesOnes: the summaries of its leaf functions.
-/
import Derived.Test.YtfdggebddcoeeaaGreatDoorTyLw
import Derived.Test.YtfdggebddcoeeaaGreatDoorTyLb
import Derived.Test.YtfdggebddcoeeaaGreatDoorTyLcP
set_option linter.unusedVariables false
set_option linter.unusedSimpArgs false
set_option maxRecDepth 100000
noncomputable section
namespace Go.Proofs.YtfdggebddcoeeaaGreatDoor
namespace Sx
open Go Go.RowKit

def onesUn : List (Nat × Nat) := [(8, 7), (8, 8), (16, 7), (16, 8), (32, 7), (32, 8), (64, 7), (64, 8), (8, 3)]
theorem onesUn_small : small onesUn := by
  intro p hp
  simp only [onesUn, List.mem_cons, List.not_mem_nil, or_false] at hp
  rcases hp with rfl | rfl | rfl | rfl | rfl | rfl | rfl | rfl | rfl <;> decide
theorem onesUn_118 : ∀ p ∈ onesUn, LeafU 118 p.1 p.2 := by
  intro p hp
  simp only [onesUn, List.mem_cons, List.not_mem_nil, or_false] at hp
  rcases hp with rfl | rfl | rfl | rfl | rfl | rfl | rfl | rfl | rfl
  · exact un8_7.1
  · exact un8_8.1
  · exact un16_7.1
  · exact un16_8.1
  · exact un32_7.1
  · exact un32_8.1
  · exact un64_7.1
  · exact un64_8.1
  · exact un8_3.1
theorem onesUn_97 : ∀ p ∈ onesUn, LeafU 97 p.1 p.2 := by
  intro p hp
  simp only [onesUn, List.mem_cons, List.not_mem_nil, or_false] at hp
  rcases hp with rfl | rfl | rfl | rfl | rfl | rfl | rfl | rfl | rfl
  · exact un8_7.2
  · exact un8_8.2
  · exact un16_7.2
  · exact un16_8.2
  · exact un32_7.2
  · exact un32_8.2
  · exact un64_7.2
  · exact un64_8.2
  · exact un8_3.2
def sumsOnes : Tr Sm := ((sumsA).set 97 (smUn onesUn)).set 118 (smUn onesUn)
theorem sumsOnes_ok (va : Nat → Int) (keys : List (SE × SE)) (spl : List (SE × SE × Nat)) : SumsOk (EE va) Tryz.prog (Gu keys spl) sumsOnes := sums_add (sums_add (sumsA_ok) (smUn_ok onesUn_small onesUn_97)) (smUn_ok onesUn_small onesUn_118)

end Sx
end Go.Proofs.YtfdggebddcoeeaaGreatDoor
end
