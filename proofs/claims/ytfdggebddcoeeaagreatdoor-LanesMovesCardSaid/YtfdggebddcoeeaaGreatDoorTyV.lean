/-
  Regions that draw their order: a derivation with loads that are pending.
-/
import Derived.Test.YtfdggebddcoeeaaGreatDoorTyU
set_option linter.unusedVariables false
set_option linter.unusedSimpArgs false
noncomputable section
namespace Go.Proofs.YtfdggebddcoeeaaGreatDoor
namespace Sx
open Go Go.RowKit

section
variable {P : Program} {ops : Array Oper} {Q : Exit → Act → World → Prop} {sil : Nat → Bool}

/-- all that number j waits for has come up where j has -/
def ClosedP (ops : Array Oper) (L : Nat → Prop) : Prop := ∀ j o, L j → ops[j]? = some o → ∀ e ∈ o.after, Region.binds .any e = true → L e.on
def Up (T : Array Bool) (j : Nat) : Prop := T.getD j false = true
/-- number i may still be to come, with all of T that acts come up -/
def MayPend (ops : Array Oper) (sil : Nat → Bool) (T : Array Bool) (i : Nat) : Prop :=
  ∃ L : Nat → Prop, ClosedP ops L ∧ (∀ j, L j → Up T j) ∧ ¬ L i ∧ (∀ j, Up T j → sil j = false → L j)
theorem up_set {T : Array Bool} {i j : Nat} (hi : i < T.size) : Up (T.setIfInBounds i true) j ↔ (j = i ∨ Up T j) := by
  unfold Up
  by_cases h : i = j
  · subst h; simp [hi]
  · have h' : ¬ j = i := fun e => h e.symm
    simp [Array.getElem?_setIfInBounds_ne h, h']
theorem up_set' {T : Array Bool} {i j : Nat} (h : Up T j) : Up (T.setIfInBounds i true) j := getD_set_true h
theorem getD_lt {T : Array Bool} {i : Nat} (h : T.getD i true = false) : i < T.size := by
  rcases Nat.lt_or_ge i T.size with h' | h'
  · exact h'
  · simp [Array.getElem?_eq_none h'] at h
theorem ready_not {T : Array Bool} {i : Nat} (h : i ∈ Region.ready .any ops T) : i < T.size ∧ ¬ Up T i := by
  obtain ⟨h1, _⟩ := mem_ready.1 h
  have hlt := getD_lt h1
  refine ⟨hlt, fun h2 => ?_⟩
  unfold Up at h2
  simp [hlt] at h1 h2
  rw [h1] at h2; cases h2
theorem closed_set {T : Array Bool} {i : Nat} (hc : ClosedP ops (Up T)) (hi : i ∈ Region.ready .any ops T) : ClosedP ops (Up (T.setIfInBounds i true)) := by
  obtain ⟨hlt, _⟩ := ready_not hi
  intro j o hj ho e he hb
  rcases (up_set hlt).1 hj with rfl | hj
  · obtain ⟨_, o', ho', h3⟩ := mem_ready.1 hi
    rw [ho] at ho'
    cases ho'
    exact up_set' (h3 e he hb)
  · exact up_set' (hc j o hj ho e he hb)
theorem mayPend_less {T : Array Bool} {i p : Nat} (hc : ClosedP ops (Up T)) (hi : i < T.size) (h : MayPend ops sil (T.setIfInBounds i true) p) : MayPend ops sil T p := by
  obtain ⟨L, h1, h2, h3, h4⟩ := h
  exact ⟨fun j => L j ∧ Up T j, fun j o hj ho e he hb => ⟨h1 j o hj.1 ho e he hb, hc j o hj.2 ho e he hb⟩, fun j hj => hj.2, fun hp => h3 hp.1, fun j hj hs => ⟨h4 j (up_set' hj) hs, hj⟩⟩

/-- whatever order is picked; behind each operation the facts of those that may still be to come hold -/
def DW (P : Program) (ops : Array Oper) (Q : Exit → Act → World → Prop) (sil : Nat → Bool) : Nat → Array Bool → List (Nat × (World → Prop)) → Act → World → Prop
  | 0, T, _, a, w => Region.ready .any ops T = [] ∧ Q .normal a w
  | n + 1, T, C, a, w => (Region.ready .any ops T = [] → Q .normal a w) ∧
    ∀ j ∈ Region.ready .any ops T, wpOp P ops Q j (fun a' w' => (∀ c ∈ C, MayPend ops sil (T.setIfInBounds j true) c.1 → c.2 w') ∧ DW P ops Q sil n (T.setIfInBounds j true) C a' w') a w
theorem DW.any : ∀ {n : Nat} {T : Array Bool} {C : List (Nat × (World → Prop))} {a : Act} {w : World}, DW P ops Q sil n T C a w → wpAny P .any ops Q n T a w
  | 0, _, _, _, _, h => h
  | _ + 1, _, _, _, _, h => ⟨h.1, fun j hj => wpOp_mono (fun _ _ hk => hk.2.any) (h.2 j hj)⟩
theorem DW.less : ∀ {n : Nat} {T : Array Bool} {C C' : List (Nat × (World → Prop))} {a : Act} {w : World}, (∀ c ∈ C', c ∈ C) → DW P ops Q sil n T C a w → DW P ops Q sil n T C' a w
  | 0, _, _, _, _, _, _, h => h
  | _ + 1, _, _, _, _, _, hs, h => ⟨h.1, fun j hj => wpOp_mono (fun _ _ hk => ⟨fun c hc => hk.1 c (hs c hc), hk.2.less hs⟩) (h.2 j hj)⟩

/-- a silent operation, or a load, may be taken first -/
theorem DW.first {i : Nat} {oi : Oper} {v : Value} {S : World → Prop} (hi : ops[i]? = some oi) (hsel : ∀ (j : Nat) (o : Oper) cs b, ops[j]? = some o → o.op ≠ .select cs b)
    (hQ : ∀ c a w, ¬ Q (.panic c) a w) (hsi : sil i = true) :
    ∀ (n : Nat) (T : Array Bool) (C : List (Nat × (World → Prop))) (a : Act) (w : World), ClosedP ops (Up T) →
      (∀ j oj, ops[j]? = some oj → j ≠ i → T.getD j true = false → (∀ e ∈ oj.after, Region.binds .any e = true → e.on ≠ i) → oi.apart ops oj = true) →
      i ∈ Region.ready .any ops T → YieldsIf P ops S oi v a → S w → (∀ c ∈ C, MayPend ops sil T c.1 → c.2 w) →
      DW P ops Q sil n (T.setIfInBounds i true) ((i, S) :: C) (a.put oi.dst v) w → DW P ops Q sil (n + 1) T C a w := by
  intro n
  induction n with
  | zero =>
    intro T C a w hcl _ hr hy hS hC H
    refine ⟨fun h => (by rw [h] at hr; cases hr), fun j hj => ?_⟩
    by_cases hji : j = i
    · subst hji; exact hy.wpOp hi hS ⟨fun c hc hm => hC c hc (mayPend_less hcl (ready_not hr).1 hm), H⟩
    · have := ready_mono hj hji
      rw [H.1] at this
      cases this
  | succ n ih =>
    intro T C a w hcl hfree hr hy hS hC H
    refine ⟨fun h => (by rw [h] at hr; cases hr), fun j hj => ?_⟩
    by_cases hji : j = i
    · subst hji
      exact hy.wpOp hi hS ⟨fun c hc hm => hC c hc (mayPend_less hcl (ready_not hr).1 hm), H.less fun c hc => List.mem_cons_of_mem _ hc⟩
    · have h1 := H.2 j (ready_mono hj hji)
      obtain ⟨hjun, oj, hoj, hall⟩ := mem_ready.1 hj
      have hnot : ∀ e ∈ oj.after, Region.binds .any e = true → e.on ≠ i := fun e he hb heq => by
        have h1 := hall e he hb
        rw [heq] at h1
        exact (ready_not hr).2 h1
      have h2 := wpOp_putIf hoj (hfree j oj hoj hji hjun hnot) (fun cs b => hsel i oi cs b hi) (fun cs b => hsel j oj cs b hoj) (fun c a w h => absurd h (hQ c _ _)) hy h1
      have hfree' : ∀ k ok, ops[k]? = some ok → k ≠ i → (T.setIfInBounds j true).getD k true = false →
          (∀ e ∈ ok.after, Region.binds .any e = true → e.on ≠ i) → oi.apart ops ok = true := fun k ok hk hki hun hno => by
        refine hfree k ok hk hki ?_ hno
        by_cases hjk : j = k
        · subst hjk; exact hjun
        · rw [getD_set_ne true hjk] at hun; exact hun
      have hjlt := (ready_not hj).1
      have hilt := (ready_not hr).1
      have hcl' := closed_set hcl hj
      have hri' := ready_mono hr (Ne.symm hji)
      -- T with j is closed and has not i
      have hpi : MayPend ops sil ((T.setIfInBounds i true).setIfInBounds j true) i := by
        refine ⟨Up (T.setIfInBounds j true), hcl', fun k hk => ?_, (ready_not hri').2, fun k hk hs => ?_⟩
        · rw [Array.setIfInBounds_comm _ _ (Ne.symm hji)]; exact up_set' hk
        · rw [Array.setIfInBounds_comm _ _ (Ne.symm hji)] at hk
          rcases (up_set (by simpa using hilt)).1 hk with rfl | hk
          · rw [hsi] at hs; cases hs
          · exact hk
      have hmore : ∀ p, MayPend ops sil (T.setIfInBounds j true) p → MayPend ops sil ((T.setIfInBounds i true).setIfInBounds j true) p := fun p ⟨L, l1, l2, l3, l4⟩ =>
        ⟨L, l1, fun k hk => (by rw [Array.setIfInBounds_comm _ _ (Ne.symm hji)]; exact up_set' (l2 k hk)), l3, fun k hk hs => (by
          rw [Array.setIfInBounds_comm _ _ (Ne.symm hji)] at hk
          rcases (up_set (by simpa using hilt)).1 hk with rfl | hk
          · rw [hsi] at hs; cases hs
          · exact l4 k hk hs)⟩
      refine wpOp_mono (fun a' w' h3 => ?_) h2
      obtain ⟨hy', hCC, hD⟩ := h3
      have hC' : ∀ c ∈ C, MayPend ops sil (T.setIfInBounds j true) c.1 → c.2 w' := fun c hc hm => hCC c (List.mem_cons_of_mem _ hc) (hmore _ hm)
      refine ⟨hC', ih (T.setIfInBounds j true) C a' w' hcl' hfree' hri' hy' (hCC (i, S) List.mem_cons_self hpi) hC' ?_⟩
      rw [Array.setIfInBounds_comm _ _ hji]
      exact hD
end

end Sx
end Go.Proofs.YtfdggebddcoeeaaGreatDoor
end
