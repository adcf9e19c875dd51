/-
  Calls: what a body leaves, and what the caller keeps of it.
-/
import Derived.Test.YtfdggebddcoeeaaGreatDoorTyR
set_option linter.unusedVariables false
set_option linter.unusedSimpArgs false
noncomputable section
namespace Go.Proofs.YtfdggebddcoeeaaGreatDoor
namespace Sx
open Go Go.RowKit
variable {E : Env} {P : Program} {G : Gl} {F : Fr}

/-- a body has left -/
structure Fin (E : Env) (P : Program) (F : Fr) (loc : Nat → Nat × Nat) (v : SV) (hp : Tr SBlk) (nx : Nat) (val : Value) (w : World) : Prop where
  den : val = v.den E loc
  wf : v.wf E nx
  hr : HRel E loc P nx hp w
  le : F.lo ≤ nx
  bel : Below F.w0.heap.size F.w0 w
  own : Own loc F.lo F.w0.heap.size nx
  agree : ∀ b, b < F.lo → loc b = F.loc0 b
theorem Fin.view {loc : Nat → Nat × Nat} {v v2 : SV} {hp hp2 : Tr SBlk} {nx nx' : Nat} {val : Value} {w : World} (s : Fin E P F loc v hp nx val w) (hn : nx ≤ nx')
    (ht : ∀ loc nx, v.wf E nx → v2.den E loc = v.den E loc ∧ v2.wf E nx)
    (hh : ∀ b k, hp2.get b = some k → ∃ k0, hp.get b = some k0 ∧ k.ty = k0.ty ∧ k.ex = k0.ex ∧ (k.fr = false → k0.fr = false) ∧ k.cells.length = k0.cells.length ∧ allOne k.cells = true ∧
      ∀ loc nx, wfL E nx k0.cells → denL E loc k.cells = denL E loc k0.cells ∧ wfL E nx k.cells) : ∃ loc', Fin E P F loc' v2 hp2 nx' val w := by
  have hl : ∀ b, b < nx → (fun b => if b < nx then loc b else (F.w0.heap.size, 0)) b = loc b := fun b hb => if_pos hb
  have hr' := hrel_congr E P s.hr hl hn
  refine ⟨(fun b => if b < nx then loc b else (F.w0.heap.size, 0)), ?_, ?_, ⟨fun b k h => ?_, fun b k h => ?_, fun b k h => ?_, fun b k h => ?_, fun b k b' k' h h' he => ?_⟩, Nat.le_trans s.le hn, s.bel, fun b h1 h2 => ?_, fun b hb => ?_⟩
  · have h1 := SV.den_congr E loc hl v s.wf
    rw [s.den, ← h1]
    exact (ht _ nx' (SV.wf_mono E hn v s.wf)).1.symm
  · exact (ht loc nx' (SV.wf_mono E hn v s.wf)).2
  · obtain ⟨k0, h1, _⟩ := hh b k h
    exact hr'.lt b k0 h1
  · obtain ⟨k0, h1, h2, h3, h4, h5, h6, h7⟩ := hh b k h
    exact brel_view (nx := nx') h2 h3 h4 h5 (h7 _ nx' (hr'.wf b k0 h1)).1 (hr'.rel b k0 h1)
  · obtain ⟨k0, h1, h2, h3, h4, h5, h6, h7⟩ := hh b k h
    exact (h7 (fun b => if b < nx then loc b else (F.w0.heap.size, 0)) nx' (hr'.wf b k0 h1)).2
  · obtain ⟨k0, h1, h2, h3, h4, h5, h6, h7⟩ := hh b k h
    exact h6
  · obtain ⟨k0, h1, _⟩ := hh b k h
    obtain ⟨k0', h1', _⟩ := hh b' k' h'
    exact hr'.inj b k0 b' k0' h1 h1' he
  · by_cases hb : b < nx
    · simp only [if_pos hb]; exact s.own b h1 hb
    · simp only [if_neg hb]; exact Nat.le_refl _
  · simp only [if_pos (Nat.lt_of_lt_of_le hb s.le)]; exact s.agree b hb
theorem Fin.left {c : SE} (hc : c.den E ≠ 0) {loc : Nat → Nat × Nat} {v v' u : SV} (hu : mgX c v v' = some u) {hp hp' : Tr SBlk} {nx nx' : Nat} {val : Value} {w : World} (s : Fin E P F loc v hp nx val w) : ∃ loc', Fin E P F loc' u (mgH c hp hp') (maxN nx nx') val w := by
  refine s.view (maxN_left nx nx') (fun loc nx hw => (mgX_ok E hu loc nx).1 hc hw) (fun b k h => ?_)
  obtain ⟨x, y, h1, h2, h3⟩ := mgH_get h
  obtain ⟨a1, a2, a3, a4, a5, a6⟩ := mgB_ok h3
  obtain ⟨b1, b2, b3⟩ := mgL_one a6
  exact ⟨x, h1, a1, a3, fun hf => (a5 hf).1, b2, b1, fun loc nx hw => (mgL_ok E a6 loc nx).1 hc hw⟩
theorem Fin.right {c : SE} (hc : c.den E = 0) {loc : Nat → Nat × Nat} {v v' u : SV} (hu : mgX c v v' = some u) {hp hp' : Tr SBlk} {nx nx' : Nat} {val : Value} {w : World} (s : Fin E P F loc v' hp' nx' val w) : ∃ loc', Fin E P F loc' u (mgH c hp hp') (maxN nx nx') val w := by
  refine s.view (maxN_right nx nx') (fun loc nx hw => (mgX_ok E hu loc nx).2 hc hw) (fun b k h => ?_)
  obtain ⟨x, y, h1, h2, h3⟩ := mgH_get h
  obtain ⟨a1, a2, a3, a4, a5, a6⟩ := mgB_ok h3
  obtain ⟨b1, b2, b3⟩ := mgL_one a6
  exact ⟨y, h2, a2, a4, fun hf => (a5 hf).2, b3, b1, fun loc nx hw => (mgL_ok E a6 loc nx).2 hc hw⟩
theorem finO_ok (hg : GOk E G F.w0) {fn : Func} : ∀ {out : Out} {v : SV} {hp : Tr SBlk} {nx : Nat}, finO P G fn.results.toList out = some (v, hp, nx) → ∀ e a w, Post E P F out e a w →
    (e = .normal ∨ e = .ret) ∧ a.defers = [] ∧ ∃ val, (results fn a.tmps).run P w = .ok val w ∧ ∃ loc, Fin E P F loc v hp nx val w := by
  intro out
  induction out with
  | done ex tm hp0 nx0 =>
    intro v hp nx h e a w hpost
    obtain ⟨rfl, loc, s⟩ := hpost
    have fin : finR hp0 nx0 (resR P G tm hp0 fn.results.toList) = some (v, hp, nx) → a.defers = [] ∧ ∃ val, (results fn a.tmps).run P w = .ok val w ∧ ∃ loc, Fin E P F loc v hp nx val w := by
      intro h
      cases hr : resR P G tm hp0 fn.results.toList with
      | none => rw [hr] at h; cases h
      | some u =>
        rw [hr] at h
        cases h
        obtain ⟨h1, h2⟩ := resR_ok s (s.gok hg) hr
        exact ⟨s.defs, _, h1, loc, rfl, h2, s.hr, s.le, s.bel, s.own, s.agree⟩
    cases ex with
    | normal => exact ⟨.inl rfl, fin h⟩
    | exit i => cases h
    | ret => exact ⟨.inr rfl, fin h⟩
  | split c t f iht ihf =>
    intro v hp nx h e a w hpost
    simp only [finO] at h
    cases h1 : finO P G fn.results.toList t with
    | none => rw [h1] at h; cases h
    | some r1 =>
      obtain ⟨v1, hp1, nx1⟩ := r1
      cases h2 : finO P G fn.results.toList f with
      | none => rw [h1, h2] at h; cases h
      | some r2 =>
        obtain ⟨v2, hp2, nx2⟩ := r2
        rw [h1, h2] at h
        simp only [mgR] at h
        cases h3 : mgX c v1 v2 with
        | none => rw [h3] at h; cases h
        | some u =>
          rw [h3] at h
          cases h
          by_cases hc : c.den E = 0
          · obtain ⟨a1, a2, val, a3, loc, a4⟩ := ihf h2 e a w (hpost.2 hc)
            exact ⟨a1, a2, val, a3, a4.right hc h3⟩
          · obtain ⟨a1, a2, val, a3, loc, a4⟩ := iht h1 e a w (hpost.1 hc)
            exact ⟨a1, a2, val, a3, a4.left hc h3⟩

/-! no address in it -/
theorem flat0_ok {v : SV} (h : flat0 v = true) : ∀ loc loc' nx nx', v.wf E nx → v.den E loc = v.den E loc' ∧ v.wf E nx' := by
  intro loc loc' nx nx' hw
  cases v <;> first | exact ⟨rfl, hw⟩ | (simp [flat0] at h)
theorem flatL_ok : ∀ {l : List SV}, flatL l = true → ∀ loc loc' nx nx', wfL E nx l → denL E loc l = denL E loc' l ∧ wfL E nx' l := by
  intro l
  induction l with
  | nil => intro _ _ _ _ _ _; exact ⟨rfl, trivial⟩
  | cons v l ih =>
    intro h loc loc' nx nx' hw
    simp only [flatL] at h
    cases h1 : flat0 v <;> rw [h1] at h <;> try (cases h; done)
    obtain ⟨a1, a2⟩ := flat0_ok h1 loc loc' nx nx' hw.1
    obtain ⟨b1, b2⟩ := ih h loc loc' nx nx' hw.2
    exact ⟨by simp only [denL, a1, b1], a2, b2⟩
theorem flat1_ok {v : SV} (h : flat1 v = true) : ∀ loc loc' nx nx', v.wf E nx → v.den E loc = v.den E loc' ∧ v.wf E nx' := by
  intro loc loc' nx nx' hw
  cases v <;> simp only [flat1] at h
  case agg l =>
    obtain ⟨a1, a2⟩ := flatL_ok h loc loc' nx nx' hw
    exact ⟨by simp only [SV.den, a1], a2⟩
  all_goals exact flat0_ok h loc loc' nx nx' hw
theorem flat1L_ok : ∀ {l : List SV}, flat1L l = true → ∀ loc loc' nx nx', wfL E nx l → denL E loc l = denL E loc' l ∧ wfL E nx' l := by
  intro l
  induction l with
  | nil => intro _ _ _ _ _ _; exact ⟨rfl, trivial⟩
  | cons v l ih =>
    intro h loc loc' nx nx' hw
    simp only [flat1L] at h
    cases h1 : flat1 v <;> rw [h1] at h <;> try (cases h; done)
    obtain ⟨a1, a2⟩ := flat1_ok h1 loc loc' nx nx' hw.1
    obtain ⟨b1, b2⟩ := ih h loc loc' nx nx' hw.2
    exact ⟨by simp only [denL, a1, b1], a2, b2⟩
theorem flat_ok {v : SV} (h : flat v = true) : ∀ loc loc' nx nx', v.wf E nx → v.den E loc = v.den E loc' ∧ v.wf E nx' := by
  intro loc loc' nx nx' hw
  cases v <;> simp only [flat] at h
  case tup l =>
    obtain ⟨a1, a2⟩ := flat1L_ok h loc loc' nx nx' hw
    exact ⟨by simp only [SV.den, a1], a2⟩
  all_goals exact flat1_ok h loc loc' nx nx' hw

/-! norm: nothing -/
theorem normN_eq (n : Nat) (k : Nat → R) : normN n k = k n := by cases n <;> rfl
theorem normK_eq (n : IntKind) (k : IntKind → R) : normK n k = k n := by cases n <;> rfl
theorem normO_eq (n : BinOp) (k : BinOp → R) : normO n k = k n := by cases n <;> rfl
theorem normE_eq : ∀ (e : SE) (k : SE → R), normE e k = k e := by
  intro e
  induction e <;> intro k <;> simp_all only [normE, normN_eq, normK_eq, normO_eq]
  rename_i n
  cases n <;> simp only [normN_eq]
theorem normB_eq : ∀ (l : List UInt8) (k : List UInt8 → R), normB l k = k l := by
  intro l
  induction l <;> intro k <;> simp_all only [normB]
theorem normV_eq (v : SV) (k : SV → R) : normV v k = k v := by cases v <;> simp only [normV, normE_eq, normK_eq, normB_eq]
theorem normL_eq : ∀ (l : List SV) (k : List SV → R), normL l k = k l := by
  intro l
  induction l <;> intro k <;> simp_all only [normL, normV_eq]
theorem normW_eq (v : SV) (k : SV → R) : normW v k = k v := by cases v <;> simp only [normW, normL_eq, normV_eq]
theorem normA_eq : ∀ (l : List SV) (k : List SV → R), normA l k = k l := by
  intro l
  induction l <;> intro k <;> simp_all only [normA, normW_eq]

end Sx
end Go.Proofs.YtfdggebddcoeeaaGreatDoor
end
