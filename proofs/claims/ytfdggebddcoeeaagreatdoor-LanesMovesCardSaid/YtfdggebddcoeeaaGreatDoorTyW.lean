/-
  Equal states; regions that draw their order.
-/
import Derived.Test.YtfdggebddcoeeaaGreatDoorTyV
set_option linter.unusedVariables false
set_option linter.unusedSimpArgs false
noncomputable section
namespace Go.Proofs.YtfdggebddcoeeaaGreatDoor
namespace Sx
open Go Go.RowKit

theorem cond_true' {a b : Bool} (h : cond a b false = true) : a = true ∧ b = true := by cases a <;> simp_all
theorem nbeq {a b : Nat} (h : Nat.beq a b = true) : a = b := Nat.eq_of_beq_eq_true h
mutual
theorem SV.beq_eq : ∀ {a b : SV}, SV.beq a b = true → a = b
  | .bool a, b, h => by cases b <;> simp only [SV.beq] at h <;> first | (cases h; done) | rw [SE.beq_eq h]
  | .int k a, b, h => by
    cases b <;> simp only [SV.beq] at h <;> try (cases h; done)
    obtain ⟨h1, h2⟩ := cond_true' h
    rw [of_decide_eq_true h1, SE.beq_eq h2]
  | .str a, b, h => by cases b <;> simp only [SV.beq] at h <;> first | (cases h; done) | rw [eqB_ok h]
  | .ptr p o, b, h => by
    cases b <;> simp only [SV.beq] at h <;> try (cases h; done)
    obtain ⟨h1, h2⟩ := cond_true' h
    rw [nbeq h1, nbeq h2]
  | .gptr p o, b, h => by
    cases b <;> simp only [SV.beq] at h <;> try (cases h; done)
    obtain ⟨h1, h2⟩ := cond_true' h
    rw [nbeq h1, nbeq h2]
  | .nilp, b, h => by cases b <;> simp only [SV.beq] at h <;> first | (cases h; done) | rfl
  | .sl p o n c, b, h => by
    cases b <;> simp only [SV.beq] at h <;> try (cases h; done)
    obtain ⟨h1, h2⟩ := cond_true' h
    obtain ⟨h3, h4⟩ := cond_true' h2
    obtain ⟨h5, h6⟩ := cond_true' h4
    rw [nbeq h1, nbeq h3, nbeq h5, capEq_ok h6]
  | .nils, b, h => by cases b <;> simp only [SV.beq] at h <;> first | (cases h; done) | rfl
  | .func f a, b, h => by
    cases b <;> simp only [SV.beq] at h <;> try (cases h; done)
    obtain ⟨h1, h2⟩ := cond_true' h
    rw [nbeq h1, beqL_eq h2]
  | .nilf, b, h => by cases b <;> simp only [SV.beq] at h <;> first | (cases h; done) | rfl
  | .agg a, b, h => by
    cases b <;> simp only [SV.beq] at h <;> try (cases h; done)
    rw [beqL_eq h]
  | .tup a, b, h => by
    cases b <;> simp only [SV.beq] at h <;> try (cases h; done)
    rw [beqL_eq h]
theorem beqL_eq : ∀ {a b : List SV}, beqL a b = true → a = b
  | [], b, h => by cases b <;> simp only [beqL] at h <;> first | (cases h; done) | rfl
  | x :: a, b, h => by
    cases b <;> simp only [beqL] at h <;> try (cases h; done)
    obtain ⟨h1, h2⟩ := cond_true' h
    rw [SV.beq_eq h1, beqL_eq h2]
end
theorem beqOV_eq {a b : Option SV} (h : beqOV a b = true) : a = b := by
  cases a <;> cases b <;> simp only [beqOV] at h <;> first | (cases h; done) | rfl | rw [SV.beq_eq h]
theorem beqOB_eq {a b : Option SBlk} (h : beqOB a b = true) : a = b := by
  cases a with
  | none => cases b <;> simp only [beqOB] at h <;> first | (cases h; done) | rfl
  | some a =>
    obtain ⟨t, x, e, f⟩ := a
    cases b with
    | none => simp only [beqOB] at h; cases h
    | some b =>
      obtain ⟨u, y, g, i⟩ := b
      simp only [beqOB] at h
      obtain ⟨h1, h2⟩ := cond_true' h
      obtain ⟨h3, h4⟩ := cond_true' h2
      obtain ⟨h5, h6⟩ := cond_true' h4
      rw [nbeq h1, beqL_eq h3, eq_of_beq h5, eq_of_beq h6]
theorem beqTV_eq : ∀ {a b : Tr SV}, beqTV a b = true → a = b
  | .lf, b, h => by cases b <;> simp only [beqTV] at h <;> first | (cases h; done) | rfl
  | .nd l v r, b, h => by
    cases b <;> simp only [beqTV] at h <;> try (cases h; done)
    obtain ⟨h1, h2⟩ := cond_true' h
    obtain ⟨h3, h4⟩ := cond_true' h2
    rw [beqOV_eq h1, beqTV_eq h3, beqTV_eq h4]
theorem beqTB_eq : ∀ {a b : Tr SBlk}, beqTB a b = true → a = b
  | .lf, b, h => by cases b <;> simp only [beqTB] at h <;> first | (cases h; done) | rfl
  | .nd l v r, b, h => by
    cases b <;> simp only [beqTB] at h <;> try (cases h; done)
    obtain ⟨h1, h2⟩ := cond_true' h
    obtain ⟨h3, h4⟩ := cond_true' h2
    rw [beqOB_eq h1, beqTB_eq h3, beqTB_eq h4]
theorem beqEx_eq {a b : Ex} (h : beqEx a b = true) : a = b := by
  cases a <;> cases b <;> simp only [beqEx] at h <;> first | (cases h; done) | rfl | rw [nbeq h]
theorem Out.beq_eq : ∀ {a b : Out}, a.beq b = true → a = b
  | .done e tm hp nx, b, h => by
    cases b <;> simp only [Out.beq] at h <;> try (cases h; done)
    obtain ⟨h1, h2⟩ := cond_true' h
    obtain ⟨h3, h4⟩ := cond_true' h2
    obtain ⟨h5, h6⟩ := cond_true' h4
    rw [beqEx_eq h1, beqTV_eq h3, beqTB_eq h5, nbeq h6]
  | .split c t f, b, h => by
    cases b <;> simp only [Out.beq] at h <;> try (cases h; done)
    obtain ⟨h1, h2⟩ := cond_true' h
    obtain ⟨h3, h4⟩ := cond_true' h2
    rw [SE.beq_eq h1, Out.beq_eq h3, Out.beq_eq h4]
variable {E : Env} {P : Program} {G : Gl} {F : Fr}
theorem eqO_some {a b : Option Out} {o : Out} (h : eqO a b = some o) : ∃ x y, a = some x ∧ b = some y ∧ (∀ e ac w, Post E P F x e ac w → Post E P F o e ac w) ∧ (∀ e ac w, Post E P F y e ac w → Post E P F o e ac w) := by
  cases a with
  | none => cases h
  | some a =>
    cases b with
    | none => cases h
    | some b =>
      simp only [eqO] at h
      cases h1 : a.beq b <;> rw [h1] at h
      · simp only [Bool.cond_false] at h
        cases h2 : (mgO (.lit 1) a b).beq (mgO (.lit 0) a b) <;> rw [h2] at h <;> cases h
        refine ⟨a, b, rfl, rfl, fun e ac w hp => mgO_left (by simp [SE.den]) hp, fun e ac w hp => ?_⟩
        rw [Out.beq_eq h2]
        exact mgO_right (by simp [SE.den]) hp
      · have h' : a = o := Option.some.inj h
        refine ⟨a, b, rfl, rfl, fun _ _ _ hp => by rw [← h']; exact hp, fun _ _ _ hp => ?_⟩
        rw [← h', Out.beq_eq h1]
        exact hp

/-! what the schedule's checks say -/
theorem kept_mem (ops : Array Oper) (T : Array Bool) (i : Nat) (L : Nat → Prop) (hc : ClosedP ops L) (hT : ∀ j, L j → Up T j) (hi : ¬ L i) (n : Nat) (hn : n ≤ ops.size) : ∀ m k acc, k + m = n → (∀ j, j < k → L j → j ∈ acc) → ∀ j, j < n → L j → j ∈ kept ops T i (List.range' k m) acc := by
  intro m
  induction m with
  | zero => intro k acc hk h j hj hL; exact h j (by omega) hL
  | succ m ih =>
    intro k acc hk h j hj hL
    simp only [List.range'_succ, kept]
    refine ih (k + 1) _ (by omega) (fun j' hj' hL' => ?_) j hj hL
    by_cases e : j' = k
    · subst e
      have h1 : Nat.beq j' i = false := by
        cases hb : Nat.beq j' i
        · rfl
        · exact absurd (nbeq hb ▸ hL') hi
      have h2 : T.getD j' false = true := hT j' hL'
      have hlt : j' < ops.size := by omega
      have h3 : depsIn ops acc j' = true := by
        unfold depsIn
        rw [Array.getElem?_eq_getElem hlt]
        simp only [Array.all_eq_true_iff_forall_mem]
        intro e he
        cases hb : Region.binds .any e
        · rfl
        · have hLe := hc j' _ hL' (Array.getElem?_eq_getElem hlt) e he hb
          by_cases hle : j' ≤ e.on
          · simp [Nat.ble_eq_true_of_le hle]
          · have := h e.on (by omega) hLe
            simp [this]
      rw [h1, h2, h3]
      exact List.mem_cons_self
    · have : j' ∈ acc := h j' (by omega) hL'
      cases Nat.beq k i
      · cases T.getD k false
        · exact this
        · cases depsIn ops acc k
          · exact this
          · exact List.mem_cons_of_mem _ this
      · exact this
theorem pendB_of {ops : Array Oper} {T : Array Bool} {p : Nat} (h : MayPend ops (fun j => isSil (cls P G (opAt ops j))) T p) : pendB P G ops T p = true := by
  obtain ⟨L, h1, h2, h3, h4⟩ := h
  unfold pendB
  simp only [List.all_eq_true, List.mem_range]
  intro j hj
  cases hs : isSil (cls P G (opAt ops j))
  · cases hT : T.getD j false
    · rfl
    · have hL := h4 j hT hs
      have := kept_mem ops T p L h1 h2 h3 ops.size (Nat.le_refl _) ops.size 0 [] (by omega) (fun j hj => absurd hj (by omega)) j hj hL
      rw [← List.range_eq_range'] at this
      simp [this]
  · cases T.getD j false <;> simp
theorem findTake_ok {ops : Array Oper} {T : Array Bool} : ∀ {l : List Nat} {i : Nat}, findTake P G ops T l = some i → i ∈ l ∧ isSil (cls P G (opAt ops i)) = true ∧ Region.free .any ops T i = true := by
  intro l
  induction l with
  | nil => intro i h; cases h
  | cons x l ih =>
    intro i h
    simp only [findTake] at h
    cases h1 : (isSil (cls P G (opAt ops x)) && Region.free .any ops T x) <;> rw [h1] at h
    · obtain ⟨a, b⟩ := ih h
      exact ⟨List.mem_cons_of_mem _ a, b⟩
    · cases h
      exact ⟨List.mem_cons_self, (Bool.and_eq_true _ _).mp h1⟩

end Sx
end Go.Proofs.YtfdggebddcoeeaaGreatDoor
end
