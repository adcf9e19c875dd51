/-
  Calls.
-/
import Derived.Test.YtfdggebddcoeeaaGreatDoorTyO
set_option linter.unusedVariables false
set_option linter.unusedSimpArgs false
noncomputable section
namespace Go.Proofs.YtfdggebddcoeeaaGreatDoor
namespace Sx
open Go Go.RowKit
variable {E : Env} {P : Program} {G : Gl} {F : Fr}

/-! results -/
theorem loadVar_ok {loc : Nat → Nat × Nat} {nx : Nat} {hp : Tr SBlk} {w : World} (hr : HRel E loc P nx hp w) (hg : GOk E G w) {t : TypeId} {x v : SV} (h : loadS P G hp t x = some v) :
    ∃ ad, x.den E loc = .pointer (some ad) ∧ (loadVar t ad).run P w = .ok (v.den E loc) w ∧ v.wf E nx := by
  obtain ⟨h1, h2⟩ := loadS_ok E loc P G hr hg h
  have hx : ∃ ad, x.den E loc = .pointer (some ad) := by
    have key : ∀ n l, loadN G hp x n = some l → ∃ ad, x.den E loc = .pointer (some ad) := fun n l hl => (loadN_ok E loc P G hr hg hl).imp fun _ h => h.1
    unfold loadS at h
    cases ha : isAggT P t <;> rw [ha] at h
    · cases hk : knownT P t <;> rw [hk] at h
      · cases h
      · simp only [Bool.cond_true, Bool.cond_false] at h
        split at h
        · rename_i l hl; exact key _ _ hl
        · cases h
    · simp only [Bool.cond_true] at h
      split at h
      · rename_i l hl; exact key _ _ hl
      · cases h
  obtain ⟨ad, hx⟩ := hx
  refine ⟨ad, hx, ?_, h2⟩
  rw [hx] at h1
  simpa only [Instr.loadAt, Instr.sureAddr, Sem.run_bind, Sem.run_pure, Result.andThen_ok] using h1
def resSem (ts : Array Value) : ResultVar → Sem Value
  | .tmp t => pure (ts.getD t undef)
  | .cell a t => do loadVar t (← asAddr (ts.getD a undef))
theorem resV_ok {loc : Nat → Nat × Nat} {tm : Tr SV} {hp : Tr SBlk} {nx : Nat} {a : Act} {w : World} (s : St E P F loc tm hp nx a w) (hg : GOk E G w) {r : ResultVar} {v : SV} (h : resV P G tm hp r = some v) :
    (resSem a.tmps r).run P w = .ok (v.den E loc) w ∧ v.wf E nx := by
  cases r with
  | tmp t =>
    simp only [resV] at h
    obtain ⟨h1, h2⟩ := s.tr t v h
    exact ⟨by simp [resSem, h1], h2⟩
  | cell x t =>
    simp only [resV] at h
    cases hv : tm.get x with
    | none => rw [hv] at h; cases h
    | some u =>
      rw [hv] at h
      obtain ⟨h1, h2⟩ := s.tr x u hv
      obtain ⟨ad, h3, h4, h5⟩ := loadVar_ok s.hr hg h
      refine ⟨?_, h5⟩
      simp only [resSem, Array.getD_eq_getD_getElem?, h1, Option.getD_some, h3, asAddr, Sem.run_bind, Sem.run_pure, Result.andThen_ok, h4]
theorem resL_ok {loc : Nat → Nat × Nat} {tm : Tr SV} {hp : Tr SBlk} {nx : Nat} {a : Act} {w : World} (s : St E P F loc tm hp nx a w) (hg : GOk E G w) : ∀ {rs : List ResultVar} {vs : List SV}, resL P G tm hp rs = some vs →
    (rs.mapM (resSem a.tmps)).run P w = .ok (denL E loc vs) w ∧ wfL E nx vs := by
  intro rs
  induction rs with
  | nil => intro vs h; cases h; exact ⟨by simp [denL], trivial⟩
  | cons r rs ih =>
    intro vs h
    simp only [resL] at h
    cases hv : resV P G tm hp r with
    | none => rw [hv] at h; cases h
    | some v =>
      cases hl : resL P G tm hp rs with
      | none => rw [hv, hl] at h; cases h
      | some us =>
        rw [hv, hl] at h
        cases h
        obtain ⟨h1, h2⟩ := resV_ok s hg hv
        obtain ⟨h3, h4⟩ := ih hl
        refine ⟨?_, h2, h4⟩
        simp only [List.mapM_cons, Sem.run_bind, h1, Result.andThen_ok, h3, Sem.run_pure, denL]
theorem resR_ok {loc : Nat → Nat × Nat} {tm : Tr SV} {hp : Tr SBlk} {nx : Nat} {a : Act} {w : World} (s : St E P F loc tm hp nx a w) (hg : GOk E G w) {fn : Func} {v : SV} (h : resR P G tm hp fn.results.toList = some v) :
    (results fn a.tmps).run P w = .ok (v.den E loc) w ∧ v.wf E nx := by
  unfold resR at h
  split at h
  · rename_i vs hvs
    obtain ⟨h1, h2⟩ := resL_ok s hg hvs
    have hm : (fn.results.mapM (resSem a.tmps)).run P w = .ok (denL E loc vs).toArray w := by
      rw [Array.mapM_eq_mapM_toList]
      simp [h1]
    have hres : results fn a.tmps = (fn.results.mapM (resSem a.tmps) >>= fun vs => pure (if h : vs.size = 1 then vs[0] else .tuple vs)) := rfl
    rw [hres]
    simp only [Sem.run_bind, hm, Result.andThen_ok, Sem.run_pure]
    split at h
    · cases h
      exact ⟨by simp [denL], h2.1⟩
    · rename_i hne
      cases h
      refine ⟨?_, h2⟩
      have : ¬ (denL E loc vs).toArray.size = 1 := by
        simp only [List.size_toArray, denL_length]
        intro hl
        match vs, hl with
        | [v], _ => exact hne v rfl
      simp only [dif_neg this, SV.den]
  · cases h

end Sx
end Go.Proofs.YtfdggebddcoeeaaGreatDoor
end
