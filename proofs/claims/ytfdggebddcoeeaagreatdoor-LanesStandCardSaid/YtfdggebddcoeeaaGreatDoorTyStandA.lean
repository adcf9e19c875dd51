/-
  LanesStand: the summaries of its leaf functions.
-/
import Derived.Test.YtfdggebddcoeeaaGreatDoorTyLw
import Derived.Test.YtfdggebddcoeeaaGreatDoorTyLb
set_option linter.unusedVariables false
set_option linter.unusedSimpArgs false
set_option maxRecDepth 100000
noncomputable section
namespace Go.Proofs.YtfdggebddcoeeaaGreatDoor
namespace Sx
open Go Go.RowKit

def standRel : List (Nat × Nat) := [(8, 1), (8, 2), (8, 3), (8, 4), (8, 5), (8, 6), (8, 7), (8, 8), (8, 9), (8, 10), (16, 1), (16, 2), (16, 3), (16, 4), (16, 5), (16, 6), (16, 7), (16, 8), (16, 9), (16, 10), (32, 1), (32, 2), (32, 3), (32, 4), (32, 5), (32, 6), (32, 7), (32, 8), (32, 9), (32, 10), (64, 1), (64, 2), (64, 3), (64, 5), (64, 7), (64, 9)]
theorem standRel_small : small standRel := by
  intro p hp
  simp only [standRel, List.mem_cons, List.not_mem_nil, or_false] at hp
  rcases hp with rfl | rfl | rfl | rfl | rfl | rfl | rfl | rfl | rfl | rfl | rfl | rfl | rfl | rfl | rfl | rfl | rfl | rfl | rfl | rfl | rfl | rfl | rfl | rfl | rfl | rfl | rfl | rfl | rfl | rfl | rfl | rfl | rfl | rfl | rfl | rfl <;> decide
theorem standRel_117 : ∀ p ∈ standRel, LeafR 117 p.1 p.2 := by
  intro p hp
  simp only [standRel, List.mem_cons, List.not_mem_nil, or_false] at hp
  rcases hp with rfl | rfl | rfl | rfl | rfl | rfl | rfl | rfl | rfl | rfl | rfl | rfl | rfl | rfl | rfl | rfl | rfl | rfl | rfl | rfl | rfl | rfl | rfl | rfl | rfl | rfl | rfl | rfl | rfl | rfl | rfl | rfl | rfl | rfl | rfl | rfl
  · exact rel8_1.1
  · exact rel8_2.1
  · exact rel8_3.1
  · exact rel8_4.1
  · exact rel8_5.1
  · exact rel8_6.1
  · exact rel8_7.1
  · exact rel8_8.1
  · exact rel8_9.1
  · exact rel8_10.1
  · exact rel16_1.1
  · exact rel16_2.1
  · exact rel16_3.1
  · exact rel16_4.1
  · exact rel16_5.1
  · exact rel16_6.1
  · exact rel16_7.1
  · exact rel16_8.1
  · exact rel16_9.1
  · exact rel16_10.1
  · exact rel32_1.1
  · exact rel32_2.1
  · exact rel32_3.1
  · exact rel32_4.1
  · exact rel32_5.1
  · exact rel32_6.1
  · exact rel32_7.1
  · exact rel32_8.1
  · exact rel32_9.1
  · exact rel32_10.1
  · exact rel64_1.1
  · exact rel64_2.1
  · exact rel64_3.1
  · exact rel64_5.1
  · exact rel64_7.1
  · exact rel64_9.1
theorem standRel_106 : ∀ p ∈ standRel, LeafR 106 p.1 p.2 := by
  intro p hp
  simp only [standRel, List.mem_cons, List.not_mem_nil, or_false] at hp
  rcases hp with rfl | rfl | rfl | rfl | rfl | rfl | rfl | rfl | rfl | rfl | rfl | rfl | rfl | rfl | rfl | rfl | rfl | rfl | rfl | rfl | rfl | rfl | rfl | rfl | rfl | rfl | rfl | rfl | rfl | rfl | rfl | rfl | rfl | rfl | rfl | rfl
  · exact rel8_1.2
  · exact rel8_2.2
  · exact rel8_3.2
  · exact rel8_4.2
  · exact rel8_5.2
  · exact rel8_6.2
  · exact rel8_7.2
  · exact rel8_8.2
  · exact rel8_9.2
  · exact rel8_10.2
  · exact rel16_1.2
  · exact rel16_2.2
  · exact rel16_3.2
  · exact rel16_4.2
  · exact rel16_5.2
  · exact rel16_6.2
  · exact rel16_7.2
  · exact rel16_8.2
  · exact rel16_9.2
  · exact rel16_10.2
  · exact rel32_1.2
  · exact rel32_2.2
  · exact rel32_3.2
  · exact rel32_4.2
  · exact rel32_5.2
  · exact rel32_6.2
  · exact rel32_7.2
  · exact rel32_8.2
  · exact rel32_9.2
  · exact rel32_10.2
  · exact rel64_1.2
  · exact rel64_2.2
  · exact rel64_3.2
  · exact rel64_5.2
  · exact rel64_7.2
  · exact rel64_9.2
def sumsStand : Tr Sm := ((sumsA).set 106 (smRel standRel)).set 117 (smRel standRel)
theorem sumsStand_ok (va : Nat → Int) (keys : List (SE × SE)) (spl : List (SE × SE × Nat)) : SumsOk (EE va) Tryz.prog (Gu keys spl) sumsStand := sums_add (sums_add (sumsA_ok) (smRel_ok standRel_small standRel_106)) (smRel_ok standRel_small standRel_117)

end Sx
end Go.Proofs.YtfdggebddcoeeaaGreatDoor
end
