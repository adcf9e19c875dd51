/-
  Calls, whole.
-/
import Derived.Test.YtfdggebddcoeeaaGreatDoorTyS
set_option linter.unusedVariables false
set_option linter.unusedSimpArgs false
noncomputable section
namespace Go.Proofs.YtfdggebddcoeeaaGreatDoor
namespace Sx
open Go Go.RowKit
variable {E : Env} {P : Program} {G : Gl} {F : Fr}

theorem hrel_below {loc : Nat → Nat × Nat} {nx : Nat} {hp : Tr SBlk} {w w' : World} (hr : HRel E loc P nx hp w) (h : Below w.heap.size w w') : HRel E loc P nx hp w' :=
  ⟨hr.lt, fun b k hb => brel_congr E loc P (nx := nx) (fun _ _ => rfl) (hr.lt b k hb) (hr.wf b k hb) (h.block _ (hrel_lt E loc P hr hb)) (hr.rel b k hb), hr.wf, hr.one, hr.inj⟩
theorem hrel_lf (loc : Nat → Nat × Nat) (nx : Nat) (w : World) : HRel E loc P nx .lf w :=
  ⟨fun b k h => (by cases h), fun b k h => (by cases h), fun b k h => (by cases h), fun b k h => (by cases h), fun b k b' k' h => (by cases h)⟩

/-- what is brought into the caller's heap -/
theorem bring_ok {nx n : Nat} {loc : Nat → Nat × Nat} {h : Tr SBlk} {w w' : World} (hh : HRel E loc P n h w') (hown : Own loc nx w.heap.size n) : ∀ {l : List SV} {hp hp' : Tr SBlk}, bring nx h l hp = some hp' → HRel E loc P n hp w' →
    (∀ b k, hp.get b = some k → (b < nx ∧ (loc b).1 < w.heap.size) ∨ (nx ≤ b ∧ h.get b = some k)) → HRel E loc P n hp' w' := by
  intro l
  induction l with
  | nil => intro hp hp' hb hr _; cases hb; exact hr
  | cons v l ih =>
    intro hp hp' hb hr hin
    have flatCase : cond (flat1 v) (bring nx h l hp) none = some hp' → HRel E loc P n hp' w' := fun hb => by
      cases h1 : flat1 v <;> rw [h1] at hb
      · cases hb
      · exact ih hb hr hin
    cases v <;> simp only [bring] at hb <;> try exact flatCase hb
    rename_i b o m c
    cases h1 : Nat.ble nx b <;> rw [h1] at hb <;> simp only [Bool.cond_true, Bool.cond_false] at hb
    · exact ih hb hr hin
    · have hle := Nat.le_of_ble_eq_true h1
      cases hk : h.get b with
      | none => rw [hk] at hb; cases hb
      | some k =>
        rw [hk] at hb
        simp only at hb
        cases h2 : flatL k.cells <;> rw [h2] at hb <;> try (cases hb; done)
        have hown' := hown b hle (hh.lt b k hk)
        have new : ∀ b' k', (hp.set b k).get b' = some k' → (b' = b ∧ k = k') ∨ (b' ≠ b ∧ hp.get b' = some k') := fun b' k' hg => Tr.get_set hg
        refine ih hb ⟨fun b' k' hg => ?_, fun b' k' hg => ?_, fun b' k' hg => ?_, fun b' k' hg => ?_, fun b1 k1 b2 k2 hg1 hg2 he => ?_⟩ (fun b' k' hg => ?_)
        · rcases new b' k' hg with ⟨rfl, rfl⟩ | ⟨_, h3⟩
          · exact hh.lt _ _ hk
          · exact hr.lt _ _ h3
        · rcases new b' k' hg with ⟨rfl, rfl⟩ | ⟨_, h3⟩
          · exact hh.rel _ _ hk
          · exact hr.rel _ _ h3
        · rcases new b' k' hg with ⟨rfl, rfl⟩ | ⟨_, h3⟩
          · exact hh.wf _ _ hk
          · exact hr.wf _ _ h3
        · rcases new b' k' hg with ⟨rfl, rfl⟩ | ⟨_, h3⟩
          · exact hh.one _ _ hk
          · exact hr.one _ _ h3
        · have cross : ∀ b' k', hp.get b' = some k' → (loc b').1 = (loc b).1 → b' = b := fun b' k' h3 he => by
            rcases hin b' k' h3 with ⟨h4, h5⟩ | ⟨h4, h5⟩
            · omega
            · exact hh.inj _ _ _ _ h5 hk he
          rcases new b1 k1 hg1 with ⟨rfl, rfl⟩ | ⟨e1, h3⟩ <;> rcases new b2 k2 hg2 with ⟨rfl, rfl⟩ | ⟨e2, h4⟩
          · rfl
          · exact (cross b2 k2 h4 he.symm).symm
          · exact cross b1 k1 h3 he
          · exact hr.inj _ _ _ _ h3 h4 he
        · rcases new b' k' hg with ⟨rfl, rfl⟩ | ⟨_, h3⟩
          · exact .inr ⟨hle, hk⟩
          · exact hin b' k' h3
theorem leave_ok {nx : Nat} {loc0 loc : Nat → Nat × Nat} {hp : Tr SBlk} {w w' : World} (hr : HRel E loc0 P nx hp w) {N : Nat} {v v' : SV} {h hp' : Tr SBlk} {n nx' : Nat} {val : Value} (f : Fin E P ⟨N, nx, w, loc0⟩ loc v h n val w')
    (hl : leave nx hp (some (v, h, n)) = some (v', hp', nx')) : ∃ loc', val = v'.den E loc' ∧ Step E loc0 P w.heap.size nx nx nx' hp' w v' loc' w' := by
  have hr' : HRel E loc P n hp w' := hrel_congr E P (hrel_below hr f.bel) f.agree f.le
  simp only [leave] at hl
  cases hf : flat v <;> rw [hf] at hl
  · simp only [Bool.cond_false] at hl
    split at hl
    · rename_i h' hb
      cases hl
      refine ⟨loc, f.den, f.le, f.agree, bring_ok (w := w) f.hr f.own hb hr' (fun b k hg => .inl ⟨hr.lt b k hg, ?_⟩), f.bel, f.own, f.wf⟩
      have : loc b = loc0 b := f.agree b (hr.lt b k hg)
      rw [this]
      exact hrel_lt E loc0 P hr hg
    · cases hl
      exact ⟨loc, f.den, f.le, f.agree, f.hr, f.bel, f.own, f.wf⟩
  · cases hl
    refine ⟨loc0, ?_, Nat.le_refl _, fun _ _ => rfl, hrel_below hr f.bel, f.bel, fun b h1 h2 => absurd h2 (by omega), (flat_ok hf loc loc n nx f.wf).2⟩
    rw [f.den]
    exact (flat_ok hf loc loc0 n nx f.wf).1

/-- a call in an empty heap, brought into a heap -/
theorem bringE_ok {nx n : Nat} {loc loc1 : Nat → Nat × Nat} {h : Tr SBlk} {w w' : World} (hh : HRel E loc1 P n h w') (hown : Own loc1 0 w.heap.size n) {loc' : Nat → Nat × Nat} (hlo : ∀ b, b < nx → loc' b = loc b) (hhi : ∀ b, loc' (nx + b) = loc1 b) :
    ∀ {l : List SV} {hp hp' : Tr SBlk}, bringE nx h l hp = some hp' → wfL E n l → HRel E loc' P (nx + n) hp w' →
    (∀ b k, hp.get b = some k → (b < nx ∧ (loc b).1 < w.heap.size) ∨ (∃ b0, b = nx + b0 ∧ h.get b0 = some k)) → HRel E loc' P (nx + n) hp' w' ∧ denL E loc' (shiftL nx l) = denL E loc1 l ∧ wfL E (nx + n) (shiftL nx l) := by
  intro l
  induction l with
  | nil => intro hp hp' hb _ hr _; cases hb; exact ⟨hr, rfl, trivial⟩
  | cons v l ih =>
    intro hp hp' hb hw hr hin
    have flatCase : cond (flat1 v) (bringE nx h l hp) none = some hp' → shiftV nx v = v → HRel E loc' P (nx + n) hp' w' ∧ denL E loc' (shiftL nx (v :: l)) = denL E loc1 (v :: l) ∧ wfL E (nx + n) (shiftL nx (v :: l)) := fun hb hs => by
      cases h1 : flat1 v <;> rw [h1] at hb
      · cases hb
      · obtain ⟨a1, a2, a3⟩ := ih hb hw.2 hr hin
        obtain ⟨b1, b2⟩ := flat1_ok h1 loc1 loc' n (nx + n) hw.1
        refine ⟨a1, ?_, ?_⟩
        · simp only [shiftL, denL, hs, a2, b1]
        · simp only [shiftL, hs]; exact ⟨b2, a3⟩
    cases v <;> simp only [bringE] at hb <;> try exact flatCase hb rfl
    rename_i b o m c
    cases hk : h.get b with
    | none => rw [hk] at hb; cases hb
    | some k =>
      rw [hk] at hb
      simp only at hb
      cases h2 : flatL k.cells <;> rw [h2] at hb <;> try (cases hb; done)
      simp only [Bool.cond_true] at hb
      have hbn := hh.lt b k hk
      have hown' := hown b (Nat.zero_le _) hbn
      obtain ⟨c1, c2⟩ := flatL_ok h2 loc1 loc' n (nx + n) (hh.wf b k hk)
      have new : ∀ b' k', (hp.set (Nat.add nx b) k).get b' = some k' → (b' = nx + b ∧ k = k') ∨ (b' ≠ nx + b ∧ hp.get b' = some k') := fun b' k' hg => Tr.get_set hg
      have key := ih hb hw.2 ⟨fun b' k' hg => ?_, fun b' k' hg => ?_, fun b' k' hg => ?_, fun b' k' hg => ?_, fun b1 k1 b2 k2 hg1 hg2 he => ?_⟩ (fun b' k' hg => ?_)
      · obtain ⟨a1, a2, a3⟩ := key
        refine ⟨a1, ?_, ?_⟩
        · simp only [shiftL, denL, a2]
          congr 1
          have hb' : loc' (Nat.add nx b) = loc1 b := hhi b
          cases c <;> simp only [shiftV, SV.den, Cap.den, hb']
        · exact ⟨Nat.add_lt_add_left hbn nx, a3⟩
      · rcases new b' k' hg with ⟨rfl, rfl⟩ | ⟨_, h3⟩
        · omega
        · exact hr.lt _ _ h3
      · rcases new b' k' hg with ⟨rfl, rfl⟩ | ⟨_, h3⟩
        · obtain ⟨cur, fz, rest, g1, g2, g3, g4, g5⟩ := hh.rel _ _ hk
          exact ⟨cur, fz, rest, by rw [hhi]; exact g1, g2, by rw [← c1]; exact g3, g4, by rw [hhi]; exact g5⟩
        · exact hr.rel _ _ h3
      · rcases new b' k' hg with ⟨rfl, rfl⟩ | ⟨_, h3⟩
        · exact c2
        · exact hr.wf _ _ h3
      · rcases new b' k' hg with ⟨rfl, rfl⟩ | ⟨_, h3⟩
        · exact hh.one _ _ hk
        · exact hr.one _ _ h3
      · have cross : ∀ b' k', hp.get b' = some k' → (loc' b').1 = (loc' (nx + b)).1 → b' = nx + b := fun b' k' h3 he => by
          rw [hhi] at he
          rcases hin b' k' h3 with ⟨h4, h5⟩ | ⟨b0, rfl, h5⟩
          · rw [hlo b' h4] at he; omega
          · rw [hhi] at he
            rw [hh.inj _ _ _ _ h5 hk he]
        rcases new b1 k1 hg1 with ⟨rfl, rfl⟩ | ⟨e1, h3⟩ <;> rcases new b2 k2 hg2 with ⟨rfl, rfl⟩ | ⟨e2, h4⟩
        · rfl
        · exact (cross b2 k2 h4 he.symm).symm
        · exact cross b1 k1 h3 he
        · exact hr.inj _ _ _ _ h3 h4 he
      · rcases new b' k' hg with ⟨rfl, rfl⟩ | ⟨_, h3⟩
        · exact .inr ⟨b, rfl, hk⟩
        · exact hin b' k' h3
theorem reloc_ok {nx : Nat} {loc loc1 : Nat → Nat × Nat} {hp : Tr SBlk} {w w' : World} (hr : HRel E loc P nx hp w) {v v' : SV} {h hp' : Tr SBlk} {n nx' : Nat} {val : Value} (hden : val = v.den E loc1) (f : Step E loc P w.heap.size 0 0 n h w v loc1 w')
    (hl : reloc hp nx (some (v, h, n)) = some (v', hp', nx')) : ∃ loc', val = v'.den E loc' ∧ Step E loc P w.heap.size nx nx nx' hp' w v' loc' w' := by
  simp only [reloc] at hl
  cases hf : flat v <;> rw [hf] at hl
  · simp only [Bool.cond_false] at hl
    have hlo : ∀ b, b < nx → (fun b => if b < nx then loc b else loc1 (b - nx)) b = loc b := fun b hb => if_pos hb
    have hhi : ∀ b, (fun b => if b < nx then loc b else loc1 (b - nx)) (nx + b) = loc1 b := fun b => by
      simp only [if_neg (show ¬ nx + b < nx by omega), Nat.add_sub_cancel_left]
    have hr' : HRel E (fun b => if b < nx then loc b else loc1 (b - nx)) P (nx + n) hp w' := hrel_congr E P (hrel_below hr f.bel) hlo (Nat.le_add_right nx n)
    have hin : ∀ b k, hp.get b = some k → (b < nx ∧ (loc b).1 < w.heap.size) ∨ (∃ b0, b = nx + b0 ∧ h.get b0 = some k) := fun b k hg => .inl ⟨hr.lt b k hg, hrel_lt E loc P hr hg⟩
    have hown : Own (fun b => if b < nx then loc b else loc1 (b - nx)) nx w.heap.size (nx + n) := fun b h1 h2 => by
      simp only [if_neg (show ¬ b < nx by omega)]
      exact f.own (b - nx) (Nat.zero_le _) (by omega)
    cases v <;> simp only at hl <;> try (cases hl; done)
    case sl b o m c =>
      cases hb : bringE nx h [.sl b o m c] hp with
      | none => rw [hb] at hl; cases hl
      | some hp1 =>
        rw [hb] at hl
        cases hl
        obtain ⟨a1, a2, a3⟩ := bringE_ok (w := w) f.hr f.own hlo hhi hb ⟨f.wf, trivial⟩ hr' hin
        refine ⟨_, ?_, Nat.le_add_right nx n, hlo, a1, f.bel, hown, a3.1⟩
        simp only [shiftL, denL, List.cons.injEq, and_true, shiftV] at a2
        rw [hden, ← a2]
    case tup l =>
      cases hb : bringE nx h l hp with
      | none => rw [hb] at hl; cases hl
      | some hp1 =>
        rw [hb] at hl
        cases hl
        obtain ⟨a1, a2, a3⟩ := bringE_ok (w := w) f.hr f.own hlo hhi hb f.wf hr' hin
        refine ⟨_, ?_, Nat.le_add_right nx n, hlo, a1, f.bel, hown, a3⟩
        rw [hden]
        simp only [SV.den, a2]
  · cases hl
    refine ⟨loc, ?_, Nat.le_refl _, fun _ _ => rfl, hrel_below hr f.bel, f.bel, fun b h1 h2 => absurd h2 (by omega), (flat_ok hf loc loc n nx f.wf).2⟩
    rw [hden]
    exact (flat_ok hf loc1 loc n nx f.wf).1

end Sx
end Go.Proofs.YtfdggebddcoeeaaGreatDoor
end
