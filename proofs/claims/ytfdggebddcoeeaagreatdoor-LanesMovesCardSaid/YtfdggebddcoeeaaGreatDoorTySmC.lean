/-
  Summaries: shaped, IndexByteString, CountString; what a call that leaves numbers alone does.
-/
import Derived.Test.YtfdggebddcoeeaaGreatDoorTySmB
import Derived.Lib.Bytealg
set_option linter.unusedVariables false
set_option linter.unusedSimpArgs false
set_option maxRecDepth 100000
noncomputable section
namespace Go.Proofs.YtfdggebddcoeeaaGreatDoor
namespace Sx
open Go Go.RowKit
variable {E : Env} {G : Gl}

theorem step_of_below {P : Program} {loc : Nat → Nat × Nat} {nx : Nat} {hp : Tr SBlk} {w w' : World} (hr : HRel E loc P nx hp w) (hb : Below w.heap.size w w') {v : SV} (hv : v.wf E nx) : Step E loc P w.heap.size nx nx nx hp w v loc w' :=
  ⟨Nat.le_refl _, fun _ _ => rfl, hrel_below hr hb, hb, fun b h1 h2 => absurd h2 (Nat.not_lt_of_le h1), hv⟩
theorem cx_of_calls {P : Program} (hP : OkP P) {f : FuncId} {fn : Func} (hf : P.funcs[f]? = some fn) (hb : fn.body.isSome = true) {args : Array Value} {w : World} {R : Value → World → Prop}
    (h : Calls P f args w (fun e w' => match e with | .returned v => R v w' | _ => False)) : CX P f args w R := by
  obtain ⟨c, hc⟩ := Option.isSome_iff_exists.1 hb
  have hok := hP f fn hf
  simp only [okFn, hc, Bool.and_eq_true, Bool.not_eq_true'] at hok
  have hn : (fn.name == "runtime.NumGoroutine") = false := hok.2
  have hpr : (program).run P w = .ok P w := rfl
  have hcall : (callFunc f args).run P w = .ok (.enter f args) w := by
    simp only [callFunc, Sem.run_bind, hpr, Result.andThen_ok, hf, hn, hc, Option.isNone_some, Bool.false_eq_true, if_false, Sem.run_pure]
  unfold CX
  rw [hcall]
  exact h
def smShaped : Sm := fun a hp nx => match a with
  | [.str s] => some (.agg [.int .i64 (.lit (.ofNat (shapeOf s shapes).1)), .bool (.lit (.ofNat (shapeOf s shapes).2))], hp, nx)
  | _ => none
theorem shape_small (s : List UInt8) : (shapeOf s shapes).1 ≤ 64 := by
  simp only [shapes, shapeOf]
  repeat' (cases eqB _ s <;> simp only [Bool.cond_true, Bool.cond_false])
  all_goals decide
theorem shaped_ok : SmOk E Tryz.prog G 35 smShaped := by
  intro args hp nx v hp' nx' h loc w hr hg hw
  unfold smShaped at h
  split at h
  · rename_i s
    cases h
    refine cx_of_calls okP Tryz.func35 rfl ((shaped_calls s w).mono fun e w' ⟨he, hb⟩ => ?_)
    subst he
    refine ⟨loc, ?_, step_of_below hr hb ?_⟩
    · simp [SV.den, denL, SE.den]
    · have := shape_small s
      refine ⟨?_, trivial, trivial⟩
      simp [SV.wf, SE.den, inR, IntKind.min, IntKind.max, IntKind.signed, IntKind.bits]
      omega
  · cases h

/-! two of the library's own -/
def idxB (c : Nat) : List UInt8 → Nat → Int
  | [], _ => -1
  | x :: l, i => cond (Nat.beq x.toNat c) (.ofNat i) (idxB c l (i + 1))
def cntB (c : Nat) : List UInt8 → Nat
  | [] => 0
  | x :: l => cond (Nat.beq x.toNat c) (cntB c l + 1) (cntB c l)
theorem idxB_eq (c : UInt8) : ∀ (l : List UInt8) (i : Nat), idxB c.toNat l i = if Go.Lib.indexByte l c = -1 then -1 else Go.Lib.indexByte l c + i := by
  intro l
  induction l with
  | nil => intro i; rfl
  | cons x l ih =>
    intro i
    have hge := Go.Lib.indexByte_ge l c
    by_cases hx : x = c
    · subst hx
      have h0 : Go.Lib.indexByte (x :: l) x = 0 := by simp [Go.Lib.indexByte]
      rw [h0]
      simp only [idxB, Nat.beq_refl]
      simp
    · have h1 : Nat.beq x.toNat c.toNat = false := by
        cases hb : Nat.beq x.toNat c.toNat
        · rfl
        · exact absurd (UInt8.toNat_inj.1 (nbeq hb)) hx
      have h2 : (x == c) = false := by simpa using hx
      have h0 : Go.Lib.indexByte (x :: l) c = if Go.Lib.indexByte l c = -1 then -1 else Go.Lib.indexByte l c + 1 := by
        simp [Go.Lib.indexByte, hx]
      simp only [idxB, h1, Bool.cond_false]
      rw [ih, h0]
      by_cases h3 : Go.Lib.indexByte l c = -1
      · simp [h3]
      · have h5 : ¬ Go.Lib.indexByte l c + 1 = -1 := by omega
        simp only [if_neg h3, if_neg h5]
        omega
theorem cntB_eq (c : UInt8) (l : List UInt8) : cntB c.toNat l = Go.Lib.countByte l c := by
  unfold Go.Lib.countByte
  induction l with
  | nil => rfl
  | cons x l ih =>
    rw [List.count_cons]
    simp only [cntB, ih]
    by_cases hx : x = c
    · subst hx; simp [Nat.beq_refl]
    · have h1 : Nat.beq x.toNat c.toNat = false := by
        cases hb : Nat.beq x.toNat c.toNat
        · rfl
        · exact absurd (UInt8.toNat_inj.1 (nbeq hb)) hx
      have h2 : (x == c) = false := by simpa using hx
      simp [h1, h2]
theorem cntB_le (c : Nat) : ∀ l : List UInt8, cntB c l ≤ l.length := by
  intro l
  induction l with
  | nil => simp [cntB]
  | cons x l ih =>
    simp only [cntB, List.length_cons]
    cases Nat.beq x.toNat c <;> simp <;> omega
theorem idxB_in (c : Nat) : ∀ (l : List UInt8) (i : Nat), -1 ≤ idxB c l i ∧ idxB c l i ≤ i + l.length := by
  intro l
  induction l with
  | nil => intro i; simp only [idxB, List.length_nil]; omega
  | cons x l ih =>
    intro i
    simp only [idxB, List.length_cons]
    have := ih (i + 1)
    cases Nat.beq x.toNat c
    · simp only [Bool.cond_false]; omega
    · simp only [Bool.cond_true]; refine ⟨?_, ?_⟩ <;> (show _ ≤ _) <;> simp <;> omega
def smIdx : Sm := fun a hp nx => match a with
  | [.str s, .int .u8 (.lit (.ofNat c))] => cond (and (Nat.blt c 256) (Nat.ble s.length many)) (some (.int .i64 (.lit (idxB c s 0)), hp, nx)) none
  | _ => none
def smCnt : Sm := fun a hp nx => match a with
  | [.str s, .int .u8 (.lit (.ofNat c))] => cond (and (Nat.blt c 256) (Nat.ble s.length many)) (some (.int .i64 (.lit (.ofNat (cntB c s))), hp, nx)) none
  | _ => none
theorem ext184 : ∃ fn, Tryz.prog.funcs[184]? = some fn ∧ (fn.name == "runtime.NumGoroutine") = false ∧ fn.body.isNone = true ∧ Extern.findNext fn = none ∧ Extern.find fn = some Extern.BytealgIndexByte.indexByte := ⟨_, Tryz.func184, by kernel_rfl, rfl, by kernel_rfl, by kernel_rfl⟩
theorem ext223 : ∃ fn, Tryz.prog.funcs[223]? = some fn ∧ (fn.name == "runtime.NumGoroutine") = false ∧ fn.body.isNone = true ∧ Extern.findNext fn = none ∧ Extern.find fn = some Extern.BytealgCount.count := ⟨_, Tryz.func223, by kernel_rfl, rfl, by kernel_rfl, by kernel_rfl⟩
theorem cx_extern {P : Program} {f : FuncId} {fn : Func} {e : Array Value → Sem Value} (hf : P.funcs[f]? = some fn) (hn : (fn.name == "runtime.NumGoroutine") = false) (hb : fn.body.isNone = true) (h1 : Extern.findNext fn = none) (h2 : Extern.find fn = some e)
    {args : Array Value} {w : World} {v : Value} (hr : (e args).run P w = .ok v w) {R : Value → World → Prop} (h : R v w) : CX P f args w R := by
  have hpr : (program).run P w = .ok P w := rfl
  have hcall : (callFunc f args).run P w = .ok (.value v) w := by
    simp only [callFunc, Sem.run_bind, hpr, Result.andThen_ok, hf, hn, hb, h1, h2, Bool.false_eq_true, if_false, if_true, Sem.run_pure, run_mark, hr]
  unfold CX
  rw [hcall]
  exact h
theorem idx_ok : SmOk E Tryz.prog G 184 smIdx := by
  intro args hp nx v hp' nx' h loc w hr hg hw
  unfold smIdx at h
  split at h
  · rename_i s c
    cases h1 : (and (Nat.blt c 256) (Nat.ble s.length many)) <;> rw [h1] at h <;> cases h
    obtain ⟨k1, k2⟩ := (Bool.and_eq_true _ _).mp h1
    have e1 := blt_lt k1
    have e2 : s.length ≤ 1048576 := Nat.le_of_ble_eq_true k2
    obtain ⟨fn, f1, f2, f3, f4, f5⟩ := ext184
    have hc : c.toUInt8.toNat = c := by
      simp
      try omega
    have hrun := Go.Lib.run_indexByteString (P := Tryz.prog) ⟨s.toArray⟩ (c : Int) w
    refine cx_extern f1 f2 f3 f4 f5 (v := .int .i64 (idxB c s 0)) ?_ ⟨loc, rfl, step_of_below hr (Below.refl _ w) ?_⟩
    · simp only [denL, SV.den, SE.den]
      rw [show (Int.ofNat c) = (c : Int) from rfl, hrun]
      have := idxB_eq c.toUInt8 s 0
      rw [hc] at this
      rw [this]
      simp

    · have := idxB_in c s 0
      simp [SV.wf, SE.den, inR, IntKind.min, IntKind.max, IntKind.signed, IntKind.bits]
      omega
  · cases h
theorem cnt_ok : SmOk E Tryz.prog G 223 smCnt := by
  intro args hp nx v hp' nx' h loc w hr hg hw
  unfold smCnt at h
  split at h
  · rename_i s c
    cases h1 : (and (Nat.blt c 256) (Nat.ble s.length many)) <;> rw [h1] at h <;> cases h
    obtain ⟨k1, k2⟩ := (Bool.and_eq_true _ _).mp h1
    have e1 := blt_lt k1
    have e2 : s.length ≤ 1048576 := Nat.le_of_ble_eq_true k2
    obtain ⟨fn, f1, f2, f3, f4, f5⟩ := ext223
    have hc : c.toUInt8.toNat = c := by
      simp
      try omega
    have hrun := Go.Lib.run_countString (P := Tryz.prog) ⟨s.toArray⟩ (c : Int) w
    refine cx_extern f1 f2 f3 f4 f5 (v := .int .i64 (cntB c s : Int)) ?_ ⟨loc, rfl, step_of_below hr (Below.refl _ w) ?_⟩
    · simp only [denL, SV.den, SE.den]
      rw [show (Int.ofNat c) = (c : Int) from rfl, hrun]
      have := cntB_eq c.toUInt8 s
      rw [hc] at this
      rw [this]
      simp
    · have := cntB_le c s
      simp [SV.wf, SE.den, inR, IntKind.min, IntKind.max, IntKind.signed, IntKind.bits]
      omega
  · cases h

end Sx
end Go.Proofs.YtfdggebddcoeeaaGreatDoor
end
