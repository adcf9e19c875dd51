/-
  LanesFloatsStand: its summaries.
-/
import Derived.Test.YtfdggebddcoeeaaGreatDoorTyFm
set_option linter.unusedVariables false
set_option linter.unusedSimpArgs false
set_option maxRecDepth 100000
noncomputable section
namespace Go.Proofs.YtfdggebddcoeeaaGreatDoor
namespace Sx
open Go Go.RowKit

def codeF (n op : Nat) : Nat := (400 + op) * 100 + n
def F2F (c : Nat) (x y : Int) : Int := cond (FR (c % 100) (c / 100 % 100) x y) 1 0
def EF (va : Nat → Int) : Env := ⟨fun _ _ => 0, F2F, va⟩
def smFR (l : List (Nat × Nat)) : Sm := fun a hp nx => match a with
  | [.int .i64 (.lit (.ofNat n)), .int .i64 (.lit (.ofNat op)), .int .u64 a, .int .u64 b] => cond (memP l n op) (some (.tup [.bool (.f2 (codeF n op) a b), .int .i64 (.lit 0)], hp, nx)) none
  | _ => none
theorem smFR_ok {va : Nat → Int} {G : Gl} {f : FuncId} {l : List (Nat × Nat)} (hs : ∀ p ∈ l, 0 < p.1 ∧ p.1 ≤ 64 ∧ p.2 < 100) (h : ∀ p ∈ l, LeafFR f p.1 p.2) : SmOk (EF va) Tryz.prog G f (smFR l) := by
  intro args hp nx v hp' nx' hv loc w hr hg hw
  unfold smFR at hv
  split at hv
  · rename_i n op a b
    cases h1 : memP l n op <;> rw [h1] at hv <;> cases hv
    have hm := memP_ok h1
    obtain ⟨s0, s1, s2⟩ := hs _ hm
    simp only at s0 s1 s2
    obtain ⟨_, _, wa, wb, _⟩ := hw
    refine cx_mono (h _ hm _ _ wa wb w) fun u w' ⟨e1, e2⟩ => ⟨loc, ?_, step_of_below hr e2 ⟨trivial, in_bits (n := 0) (by decide), trivial⟩⟩
    have c1 : codeF n op % 100 = n := by unfold codeF; omega
    have c2 : codeF n op / 100 % 100 = op := by unfold codeF; omega
    have hp : (1 : Int) < 2 ^ n := by have := two_pow_mono s0; simp at this; omega
    have hval : (SE.f2 (codeF n op) a b).den (EF va) = cond (FR n op (a.den (EF va)) (b.den (EF va))) 1 0 := by
      show F2F (codeF n op) (a.den (EF va)) (b.den (EF va)) % 2 ^ (codeF n op % 100) = _
      unfold F2F
      rw [c1, c2]
      cases FR n op (a.den (EF va)) (b.den (EF va))
      · rfl
      · exact emod_small ⟨by decide, hp⟩
    rw [e1]
    simp only [SV.den, denL, hval]
    cases FR n op (a.den (EF va)) (b.den (EF va)) <;> rfl
  · cases hv
def fstandL : List (Nat × Nat) := [(32, 1), (32, 2), (32, 3), (32, 4), (32, 5), (32, 6), (64, 1), (64, 2), (64, 3), (64, 4), (64, 5), (64, 6)]
theorem fstandL_small : ∀ p ∈ fstandL, 0 < p.1 ∧ p.1 ≤ 64 ∧ p.2 < 100 := by
  intro p hp
  simp only [fstandL, List.mem_cons, List.not_mem_nil, or_false] at hp
  rcases hp with rfl | rfl | rfl | rfl | rfl | rfl | rfl | rfl | rfl | rfl | rfl | rfl <;> decide
theorem fstandL_105 : ∀ p ∈ fstandL, LeafFR 105 p.1 p.2 := by
  intro p hp
  simp only [fstandL, List.mem_cons, List.not_mem_nil, or_false] at hp
  rcases hp with rfl | rfl | rfl | rfl | rfl | rfl | rfl | rfl | rfl | rfl | rfl | rfl
  · exact prel32_1
  · exact prel32_2
  · exact prel32_3
  · exact prel32_4
  · exact prel32_5
  · exact prel32_6
  · exact prel64_1
  · exact prel64_2
  · exact prel64_3
  · exact prel64_4
  · exact prel64_5
  · exact prel64_6
theorem fstandL_116 : ∀ p ∈ fstandL, LeafFR 116 p.1 p.2 := by
  intro p hp
  simp only [fstandL, List.mem_cons, List.not_mem_nil, or_false] at hp
  rcases hp with rfl | rfl | rfl | rfl | rfl | rfl | rfl | rfl | rfl | rfl | rfl | rfl
  · exact rrel32_1
  · exact rrel32_2
  · exact rrel32_3
  · exact rrel32_4
  · exact rrel32_5
  · exact rrel32_6
  · exact rrel64_1
  · exact rrel64_2
  · exact rrel64_3
  · exact rrel64_4
  · exact rrel64_5
  · exact rrel64_6
def sumsFloatsStand : Tr Sm := (sumsA.set 105 (smFR fstandL)).set 116 (smFR fstandL)
theorem sumsFloatsStand_ok (va : Nat → Int) (keys : List (SE × SE)) (spl : List (SE × SE × Nat)) : SumsOk (EF va) Tryz.prog (Gu keys spl) sumsFloatsStand := sums_add (sums_add sumsA_ok (smFR_ok fstandL_small fstandL_105)) (smFR_ok fstandL_small fstandL_116)

end Sx
end Go.Proofs.YtfdggebddcoeeaaGreatDoor
end
