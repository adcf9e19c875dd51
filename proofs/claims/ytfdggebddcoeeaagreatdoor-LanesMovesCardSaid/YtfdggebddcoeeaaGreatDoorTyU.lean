/-
  The evaluator is sound, given its summaries and its drawn regions.
-/
import Derived.Test.YtfdggebddcoeeaaGreatDoorTyT
set_option linter.unusedVariables false
set_option linter.unusedSimpArgs false
noncomputable section
namespace Go.Proofs.YtfdggebddcoeeaaGreatDoor
namespace Sx
open Go Go.RowKit
variable {E : Env} {P : Program} {G : Gl}

/-- what is asked of every function of the program -/
def okFn (fn : Func) : Bool := match fn.body with
  | some c => boundC fn.ntmps c && !(fn.name == "runtime.NumGoroutine")
  | none => true
variable (P) in
def OkP : Prop := ∀ (f : Nat) (fn : Func), P.funcs[f]? = some fn → okFn fn = true
variable (E P G) in
/-- what is asked of drawn regions -/
def DrawOk : Prop := ∀ (F : Fr) (cf : CF), CFOk E P G cf → GOk E G F.w0 → ∀ id ops, dstIn F.n ops.toList = true → ROk E P F (runR P G cf F.lo ops true) (fun Q a w => (Code.region id ops true).wp P Q a w)
variable (E P G) in
def SmOk (f : FuncId) (s : Sm) : Prop := ∀ args hp nx v hp' nx', s args hp nx = some (v, hp', nx') → ∀ loc w, HRel E loc P nx hp w → GOk E G w → wfL E nx args →
  CX P f (denL E loc args).toArray w (fun u w' => ∃ loc', u = v.den E loc' ∧ Step E loc P w.heap.size nx nx nx' hp' w v loc' w')
variable (E P G) in
def SumsOk (sums : Tr Sm) : Prop := ∀ f s, sums.get f = some s → SmOk E P G f s

theorem boundC_mono {n m : Nat} (h : n ≤ m) : ∀ {c : Code}, boundC n c = true → boundC m c = true := by
  have hd : ∀ {l : List Oper}, dstIn n l = true → dstIn m l = true := by
    intro l
    induction l with
    | nil => intro h; exact h
    | cons o l ih =>
      intro h'
      simp only [dstIn] at h' ⊢
      cases ho : o.dst with
      | none => rw [ho] at h'; exact ih h'
      | some t =>
        rw [ho] at h'
        simp only at h' ⊢
        cases h1 : Nat.blt t n <;> rw [h1] at h' <;> try (cases h'; done)
        have : Nat.blt t m = true := by have := blt_lt h1; simp [Nat.blt_eq]; omega
        rw [this]
        exact ih h'
  intro c
  induction c with
  | region id ops d => exact hd
  | seq a b iha ihb =>
    intro h'
    simp only [boundC] at h' ⊢
    cases h1 : boundC n a <;> rw [h1] at h' <;> try (cases h'; done)
    rw [iha h1]; exact ihb h'
  | cond x a b iha ihb =>
    intro h'
    simp only [boundC] at h' ⊢
    cases h1 : boundC n a <;> rw [h1] at h' <;> try (cases h'; done)
    rw [iha h1]; exact ihb h'
  | block id a ih => exact ih
  | loop a ih => exact ih
  | _ => intro _; rfl
theorem tmOf_get : ∀ {l : List SV} {i : Nat} {t : Tr SV} {k : Nat} {v : SV}, (tmOf l i t).get k = some v → (i ≤ k ∧ l[k - i]? = some v) ∨ t.get k = some v := by
  intro l
  induction l with
  | nil => intro i t k v h; exact .inr h
  | cons x l ih =>
    intro i t k v h
    simp only [tmOf] at h
    rcases ih h with ⟨h1, h2⟩ | h2
    · refine .inl ⟨by omega, ?_⟩
      have : k - i = (k - (i + 1)) + 1 := by omega
      rw [this, List.getElem?_cons_succ]; exact h2
    · rcases Tr.get_set h2 with ⟨rfl, rfl⟩ | ⟨_, h3⟩
      · exact .inl ⟨Nat.le_refl _, by simp⟩
      · exact .inr h3
theorem callH_ok (hP : OkP P) (hD : DrawOk E P G) {cf : CF} (hcf : CFOk E P G cf) {f : FuncId} {args : List SV} {hp : Tr SBlk} {nx : Nat} {v : SV} {hp' : Tr SBlk} {nx' : Nat}
    (h : callH P G cf P.funcs[f]? args hp nx = some (v, hp', nx')) {loc : Nat → Nat × Nat} {w : World} (hr : HRel E loc P nx hp w) (hg : GOk E G w) (hw : wfL E nx args) :
    CX P f (denL E loc args).toArray w (fun u w' => ∃ loc', u = v.den E loc' ∧ Step E loc P w.heap.size nx nx nx' hp' w v loc' w') := by
  unfold callH at h
  cases hfn : P.funcs[f]? with
  | none => rw [hfn] at h; cases h
  | some fn =>
    rw [hfn] at h
    simp only at h
    cases hb : fn.body with
    | none => rw [hb] at h; cases h
    | some c =>
      rw [hb] at h
      simp only at h
      have hok := hP f fn hfn
      simp only [okFn, hb, Bool.and_eq_true, Bool.not_eq_true'] at hok
      have hcall : (callFunc f (denL E loc args).toArray).run P w = .ok (.enter f (denL E loc args).toArray) w := by
        have hn : (fn.name == "runtime.NumGoroutine") = false := hok.2
        have hpr : (program).run P w = .ok P w := rfl
        simp only [callFunc, Sem.run_bind, hpr, Result.andThen_ok, hfn, hn, hb, Option.isNone_some, Bool.false_eq_true, if_false, Sem.run_pure]
      unfold CX
      rw [hcall]
      simp only
      cases he : exec P G cf nx c (tmOf args 0 .lf) hp nx with
      | none => rw [he] at h; cases h
      | some o =>
        rw [he] at h
        simp only at h
        cases hfin : finO P G fn.results.toList o with
        | none => rw [hfin] at h; cases h
        | some r =>
          obtain ⟨v1, h1, n1⟩ := r
          rw [hfin] at h
          let N := args.length + (fn.ntmps - args.length)
          have hbN : boundC N c = true := boundC_mono (by omega) hok.1
          have s0 : St E P ⟨N, nx, w, loc⟩ loc (tmOf args 0 .lf) hp nx { tmps := (denL E loc args).toArray ++ Array.replicate (fn.ntmps - (denL E loc args).toArray.size) undef, defers := [] } w := by
            refine ⟨by simp [denL_length, N], rfl, fun t u ht => ?_, hr, Nat.le_refl _, Below.refl _ w, fun b h1 h2 => absurd h2 (Nat.not_lt_of_le h1), fun _ _ => rfl⟩
            rcases tmOf_get ht with ⟨_, h2⟩ | h2
            · have h3 : args[t]? = some u := by simpa using h2
              have hlt : t < args.length := (List.getElem?_eq_some_iff.1 h3).1
              refine ⟨?_, wfL_get E hw h3⟩
              rw [Array.getElem?_append_left (by simp [denL_length]; exact hlt)]
              simp only [List.getElem?_toArray, denL_eq, List.getElem?_map, h3, Option.map_some]
            · cases h2
          refine calls_of_wp hfn hb ?_
          refine exec_ok (F := ⟨N, nx, w, loc⟩) hcf hg (fun id ops hd => hD ⟨N, nx, w, loc⟩ cf hcf hg id ops hd) hbN _ _ _ _ he loc _ w s0 _ (fun e a w' hpost => ?_)
          obtain ⟨e1, e2, val, e3, loc1, e4⟩ := finO_ok hg hfin e a w' hpost
          obtain ⟨loc', e5, e6⟩ := leave_ok hr e4 h
          rcases e1 with rfl | rfl <;> exact ⟨e2, val, e3, loc', e5, e6⟩
theorem cx_mono {f : FuncId} {args : Array Value} {w : World} {R R' : Value → World → Prop} (h : CX P f args w R) (hr : ∀ v w', R v w' → R' v w') : CX P f args w R' := by
  unfold CX at *
  split at h
  · rename_i v w' heq; exact hr _ _ h
  · refine Calls.mono h fun e w'' he => ?_
    cases e <;> first | exact hr _ _ he | exact he
  · exact h.elim
theorem callB_ok (hP : OkP P) (hD : DrawOk E P G) {cf : CF} (hcf : CFOk E P G cf) {f : FuncId} {args : List SV} {hp : Tr SBlk} {nx : Nat} {v : SV} {hp' : Tr SBlk} {nx' : Nat}
    (h : callB P G cf P.funcs[f]? args hp nx = some (v, hp', nx')) {loc : Nat → Nat × Nat} {w : World} (hr : HRel E loc P nx hp w) (hg : GOk E G w) (hw : wfL E nx args) :
    CX P f (denL E loc args).toArray w (fun u w' => ∃ loc', u = v.den E loc' ∧ Step E loc P w.heap.size nx nx nx' hp' w v loc' w') := by
  unfold callB at h
  cases hf : flat1L args <;> rw [hf] at h
  · exact callH_ok hP hD hcf h hr hg hw
  · simp only [Bool.cond_true, normA_eq] at h
    cases hc : callH P G cf P.funcs[f]? args .lf 0 with
    | none => rw [hc] at h; cases h
    | some r =>
      obtain ⟨v1, h1, n1⟩ := r
      rw [hc] at h
      have hfl := flat1L_ok hf loc loc nx 0 hw
      refine cx_mono (callH_ok hP hD hcf hc (hrel_lf loc 0 w) hg hfl.2) fun u w' ⟨loc1, e1, e2⟩ => ?_
      exact reloc_ok hr e1 ⟨e2.le, fun b hb => absurd hb (by omega), e2.hr, e2.bel, e2.own, e2.wf⟩ h
theorem call_ok (hP : OkP P) (hD : DrawOk E P G) {sums : Tr Sm} (hS : SumsOk E P G sums) : ∀ n, CFOk E P G (call P G sums n) := by
  intro n
  induction n with
  | zero => intro f args hp nx v hp' nx' h; cases h
  | succ n ih =>
    intro f args hp nx v hp' nx' h loc w hr hg hw
    simp only [call, callS] at h
    cases hs : sums.get f with
    | none => rw [hs] at h; exact callB_ok hP hD ih h hr hg hw
    | some s =>
      rw [hs] at h
      simp only at h
      cases hv : s args hp nx with
      | none => rw [hv] at h; exact callB_ok hP hD ih h hr hg hw
      | some r =>
        rw [hv] at h
        cases h
        exact hS f s hs _ _ _ _ _ _ hv loc w hr hg hw

end Sx
end Go.Proofs.YtfdggebddcoeeaaGreatDoor
end
