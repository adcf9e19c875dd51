/-
  The reference's roots and whole numbers of a float: walks.
-/
import Derived.Test.YtfdggebddcoeeaaGreatDoorFbFa
set_option linter.unusedVariables false
set_option linter.unusedSimpArgs false
set_option maxRecDepth 100000
noncomputable section
namespace Go.Proofs.YtfdggebddcoeeaaGreatDoor
namespace Sx
open Go Go.RowKit

theorem run_extern' {P : Program} {f : FuncId} {fn : Func} {e : Array Value → Sem Value} (hf : P.funcs[f]? = some fn) (hn : (fn.name == "runtime.NumGoroutine") = false) (hb : fn.body.isNone = true) (h1 : Extern.findNext fn = none) (h2 : Extern.find fn = some e)
    {args : Array Value} {w w' : World} {v : Value} (hr : (e args).run P w = .ok v w') : (callFunc f args).run P w = .ok (.value v) w' := by
  have hpr : (program).run P w = .ok P w := rfl
  simp only [callFunc, Sem.run_bind, hpr, Result.andThen_ok, hf, hn, hb, h1, h2, Bool.false_eq_true, if_false, if_true, Sem.run_pure, run_mark, hr]
theorem ext212 : ∃ fn, Tryz.prog.funcs[212]? = some fn ∧ (fn.name == "runtime.NumGoroutine") = false ∧ fn.body.isNone = true ∧ Extern.findNext fn = none ∧ Extern.find fn = some Extern.MathSqrt.sqrt := ⟨_, Tryz.func212, by kernel_rfl, rfl, by kernel_rfl, by kernel_rfl⟩
theorem sqrt_eq (x : Nat) : Extern.MathSqrt.sqrt #[.float .f64 x] = (match Ieee.double.sqrt x with
    | some r => pure (.float .f64 r)
    | none => do pure (.float .f64 (← choose (.nanBits .f64 x x)))) := rfl
theorem sqrt_call (x : Nat) (w : World) : ∃ r w', (callFunc 212 #[.float .f64 x]).run Tryz.prog w = .ok (.value (.float .f64 r)) w' ∧ Drew w w' ∧ (∀ s, Ieee.double.sqrt x = some s → r = s) ∧ (Ieee.double.sqrt x = none → Fx.isNaN Ieee.double r = true) := by
  obtain ⟨fn, f1, f2, f3, f4, f5⟩ := ext212
  cases h : Ieee.double.sqrt x with
  | some s => exact ⟨s, w, run_extern' f1 f2 f3 f4 f5 (by rw [sqrt_eq, h]; rfl), .inl rfl, fun s' h' => Option.some.inj h', fun h' => by cases h'⟩
  | none =>
    refine ⟨(Question.nanBits .f64 x x).cut (w.tape w.drawn (.nanBits .f64 x x)), { w with drawn := w.drawn + 1 }, run_extern' f1 f2 f3 f4 f5 ?_, .inr rfl, fun s h' => (by cases h'), fun _ => nan64 _⟩
    rw [sqrt_eq, h]
    simp
    intro h'
    exact absurd h' (by simp [Question.forced])
/-- a NaN's word -/
theorem nan_word (s : Bool) (t : Nat) : Fx.isNaN Ieee.double (Ieee.double.write (.nan s (Ieee.double.quiet t))) = true := by
  have hq : Ieee.double.quiet t % Ieee.double.binade ≠ 0 := by
    have hb : Ieee.double.binade = 2 ^ 52 := rfl
    have hbit : (Ieee.double.quiet t).testBit 51 = true := by
      show (t ||| 2 ^ 51).testBit 51 = true
      rw [Nat.testBit_or, Nat.testBit_two_pow_self, Bool.or_true]
    intro h0
    have h1 : (Ieee.double.quiet t % 2 ^ 52).testBit 51 = true := by
      rw [Nat.testBit_mod_two_pow]
      simp [hbit]
    rw [hb] at h0
    rw [h0] at h1
    simp at h1
  have hlt := Nat.mod_lt (Ieee.double.quiet t) (Fx.binade_pos Ieee.double)
  have hi : Ieee.double.infRung + Ieee.double.quiet t % Ieee.double.binade < Ieee.double.signWeight := by
    have hb : Ieee.double.binade = 2 ^ 52 := rfl
    have h2 : Ieee.double.infRung = 9218868437227405312 := by decide
    have h3 : Ieee.double.signWeight = 2 ^ 63 := by decide
    rw [h2, h3]
    omega
  show Fx.isNaN Ieee.double (Ieee.double.word s (Ieee.double.infRung + Ieee.double.quiet t % Ieee.double.binade)) = true
  unfold Fx.isNaN
  rw [Fx.word_rung _ hi]
  exact decide_eq_true (by omega)
theorem integral_ex (name : String) (way : Ieee.Toward) (x : Nat) : ∃ q : Question, q.forced = false ∧ Extern.MathFloor.toIntegral name way #[.float .f64 x] = (match Ieee.double.read x with
    | .nan s t =>
      if Ieee.double.quiet t = t then pure (.float .f64 x) else do
      let kept ← choose q
      pure (.float .f64 (if kept == 1 then x else Ieee.double.write (.nan s (Ieee.double.quiet t))))
    | d => pure (.float .f64 (Ieee.double.write (d.integral way)))) := by
  refine ⟨_, ?_, rfl⟩
  rfl
theorem integral_run (name : String) (way : Ieee.Toward) (x : Nat) (w : World) : ∃ r w', (Extern.MathFloor.toIntegral name way #[.float .f64 x]).run Tryz.prog w = .ok (.float .f64 r) w' ∧ Drew w w' ∧ (Fx.isNaN Ieee.double x = false → r = Ieee.double.write ((Ieee.double.read x).integral way)) ∧ (Fx.isNaN Ieee.double x = true → Fx.isNaN Ieee.double r = true) := by
  have h64 : (2 : Nat) ≤ Ieee.double.exponentBits := by decide
  obtain ⟨q, hqf, integral_eq⟩ := integral_ex name way x
  by_cases hn : Ieee.double.infRung < Fx.rungOf Ieee.double x
  · have hr := Fx.read_nan Ieee.double h64 hn
    have hnan : Fx.isNaN Ieee.double x = true := by simp [Fx.isNaN, hn]
    by_cases hq : Ieee.double.quiet (Fx.rungOf Ieee.double x - Ieee.double.infRung) = Fx.rungOf Ieee.double x - Ieee.double.infRung
    · refine ⟨x, w, ?_, .inl rfl, fun h => (by rw [hnan] at h; cases h), fun _ => hnan⟩
      rw [integral_eq, hr]
      simp [hq]
    · let kept := q.cut (w.tape w.drawn q)
      refine ⟨if kept == 1 then x else Ieee.double.write (.nan (Fx.negOf Ieee.double x) (Ieee.double.quiet (Fx.rungOf Ieee.double x - Ieee.double.infRung))), { w with drawn := w.drawn + 1 }, ?_, .inr rfl, fun h => (by rw [hnan] at h; cases h), fun _ => ?_⟩
      · rw [integral_eq, hr]
        simp [hq, hqf, kept]
      · split
        · exact hnan
        · exact nan_word _ _
  · have hnn : Fx.isNaN Ieee.double x = false := by simp [Fx.isNaN, hn]
    refine ⟨Ieee.double.write ((Ieee.double.read x).integral way), w, ?_, .inl rfl, fun _ => rfl, fun h => (by rw [hnn] at h; cases h)⟩
    by_cases hi : Fx.rungOf Ieee.double x = Ieee.double.infRung
    · have hr := Fx.read_inf Ieee.double h64 hi
      rw [integral_eq, hr]
      rfl
    · have hr := Fx.read_number Ieee.double h64 (show Fx.rungOf Ieee.double x < Ieee.double.infRung by omega)
      rw [integral_eq, hr]
      rfl
theorem ext213 : ∃ fn, Tryz.prog.funcs[213]? = some fn ∧ (fn.name == "runtime.NumGoroutine") = false ∧ fn.body.isNone = true ∧ Extern.findNext fn = none ∧ Extern.find fn = some (Extern.MathFloor.toIntegral "math.archCeil" .up) := ⟨_, Tryz.func213, by kernel_rfl, rfl, by kernel_rfl, by kernel_rfl⟩
theorem whole_call4 (x : Nat) (w : World) : ∃ r w', (callFunc 213 #[.float .f64 x]).run Tryz.prog w = .ok (.value (.float .f64 r)) w' ∧ Drew w w' ∧ (Fx.isNaN Ieee.double x = false → r = Ieee.double.write ((Ieee.double.read x).integral .up)) ∧ (Fx.isNaN Ieee.double x = true → Fx.isNaN Ieee.double r = true) := by
  obtain ⟨fn, f1, f2, f3, f4, f5⟩ := ext213
  obtain ⟨r, w', h1, h2, h3, h4⟩ := integral_run "math.archCeil" .up x w
  exact ⟨r, w', run_extern' f1 f2 f3 f4 f5 h1, h2, h3, h4⟩
theorem ext215 : ∃ fn, Tryz.prog.funcs[215]? = some fn ∧ (fn.name == "runtime.NumGoroutine") = false ∧ fn.body.isNone = true ∧ Extern.findNext fn = none ∧ Extern.find fn = some (Extern.MathFloor.toIntegral "math.archFloor" .down) := ⟨_, Tryz.func215, by kernel_rfl, rfl, by kernel_rfl, by kernel_rfl⟩
theorem whole_call5 (x : Nat) (w : World) : ∃ r w', (callFunc 215 #[.float .f64 x]).run Tryz.prog w = .ok (.value (.float .f64 r)) w' ∧ Drew w w' ∧ (Fx.isNaN Ieee.double x = false → r = Ieee.double.write ((Ieee.double.read x).integral .down)) ∧ (Fx.isNaN Ieee.double x = true → Fx.isNaN Ieee.double r = true) := by
  obtain ⟨fn, f1, f2, f3, f4, f5⟩ := ext215
  obtain ⟨r, w', h1, h2, h3, h4⟩ := integral_run "math.archFloor" .down x w
  exact ⟨r, w', run_extern' f1 f2 f3 f4 f5 h1, h2, h3, h4⟩
theorem ext217 : ∃ fn, Tryz.prog.funcs[217]? = some fn ∧ (fn.name == "runtime.NumGoroutine") = false ∧ fn.body.isNone = true ∧ Extern.findNext fn = none ∧ Extern.find fn = some (Extern.MathFloor.toIntegral "math.archTrunc" .zero) := ⟨_, Tryz.func217, by kernel_rfl, rfl, by kernel_rfl, by kernel_rfl⟩
theorem whole_call6 (x : Nat) (w : World) : ∃ r w', (callFunc 217 #[.float .f64 x]).run Tryz.prog w = .ok (.value (.float .f64 r)) w' ∧ Drew w w' ∧ (Fx.isNaN Ieee.double x = false → r = Ieee.double.write ((Ieee.double.read x).integral .zero)) ∧ (Fx.isNaN Ieee.double x = true → Fx.isNaN Ieee.double r = true) := by
  obtain ⟨fn, f1, f2, f3, f4, f5⟩ := ext217
  obtain ⟨r, w', h1, h2, h3, h4⟩ := integral_run "math.archTrunc" .zero x w
  exact ⟨r, w', run_extern' f1 f2 f3 f4 f5 h1, h2, h3, h4⟩
theorem ext181 : ∃ fn, Tryz.prog.funcs[181]? = some fn ∧ (fn.name == "runtime.NumGoroutine") = false ∧ fn.body.isNone = true ∧ Extern.findNext fn = none ∧ Extern.find fn = some (Extern.MathFloor.toIntegral "math.RoundToEven" .even) := ⟨_, Tryz.func181, by kernel_rfl, rfl, by kernel_rfl, by kernel_rfl⟩
theorem whole_call7 (x : Nat) (w : World) : ∃ r w', (callFunc 181 #[.float .f64 x]).run Tryz.prog w = .ok (.value (.float .f64 r)) w' ∧ Drew w w' ∧ (Fx.isNaN Ieee.double x = false → r = Ieee.double.write ((Ieee.double.read x).integral .even)) ∧ (Fx.isNaN Ieee.double x = true → Fx.isNaN Ieee.double r = true) := by
  obtain ⟨fn, f1, f2, f3, f4, f5⟩ := ext181
  obtain ⟨r, w', h1, h2, h3, h4⟩ := integral_run "math.RoundToEven" .even x w
  exact ⟨r, w', run_extern' f1 f2 f3 f4 f5 h1, h2, h3, h4⟩
theorem ftf_eq {b : Nat} {s : Bool} {m : Nat} {e : Int} (hr : Ieee.double.read b = .number s m e) : floatToFloatBits .f64 b .f32 = if (Ieee.single.read (Ieee.single.write (.number s m e))).isInfinity = true then none else some (Ieee.single.write (.number s m e)) := by
  unfold floatToFloatBits
  rw [if_neg (by decide)]
  show (match Ieee.double.read b with
    | .nan _ _ => none
    | .infinity s => some (Ieee.single.write (.infinity s))
    | .number s m e => if (Ieee.single.read (Ieee.single.write (.number s m e))).isInfinity then none else some (Ieee.single.write (.number s m e))) = _
  rw [hr]
/-- 'float32(x)' of a float64 -/
theorem conv_narrow (b : Nat) (w : World) : ∃ r w', (convert 143 147 (.float .f64 b)).run Tryz.prog w = .ok (.float .f32 r) w' ∧ Drew w w' ∧ (Fx.isNaN Ieee.double b = true → Fx.isNaN Ieee.single r = true) ∧ (∀ s, floatToFloatBits .f64 b .f32 = some s → r = s) ∧ r < 2 ^ 32 := by
  have h64 : (2 : Nat) ≤ Ieee.double.exponentBits := by decide
  have hu1 := Tryz.underlying147
  have hu2 := Tryz.underlying143
  cases hf : floatToFloatBits .f64 b .f32 with
  | some s =>
    have hs : s < 2 ^ 32 := by
      unfold floatToFloatBits at hf
      simp only [reduceCtorEq, if_false] at hf
      split at hf
      · cases hf
      · cases hf; exact Ieee.single.write_lt _
      · split at hf
        · cases hf
        · cases hf; exact Ieee.single.write_lt _
    refine ⟨s, w, run_convert_float_float w 143 147 .f64 .f32 b s (by rw [hu2]; rfl) hu1 hf, .inl rfl, fun hn => ?_, fun s' h' => Option.some.inj h', hs⟩
    exfalso
    have hlt : Ieee.double.infRung < Fx.rungOf Ieee.double b := by simpa [Fx.isNaN] using hn
    have hr := Fx.read_nan Ieee.double h64 hlt
    simp [floatToFloatBits, FloatKind.decode, FloatKind.format, hr] at hf
  | none =>
    by_cases hn : Ieee.double.infRung < Fx.rungOf Ieee.double b
    · have hr := Fx.read_nan Ieee.double h64 hn
      refine ⟨(Question.nanConv .f32 b).cut (w.tape w.drawn (.nanConv .f32 b)), { w with drawn := w.drawn + 1 }, ?_, .inr rfl, fun _ => nan32 _, fun s h' => (by cases h'), ?_⟩
      · simp [convert, run_underlying hu1, run_underlying hu2, Conv.floatToFloat, FloatKind.decode, FloatKind.format, hr]
        intro h
        exact absurd h (by simp [Question.forced])
      · show (_ % 2) * 2 ^ 31 + 0x7f800000 + 1 + (_ / 2) % (2 ^ 23 - 1) < 2 ^ 32
        generalize w.tape w.drawn (.nanConv .f32 b) = t
        have h1 := Nat.mod_lt (t / 2) (show 0 < 2 ^ 23 - 1 by decide)
        have h2 := Nat.mod_lt t (show 0 < 2 by decide)
        generalize t / 2 % (2 ^ 23 - 1) = u at *
        omega
    · have hnn : Fx.isNaN Ieee.double b = false := by simp [Fx.isNaN, hn]
      have hni : ¬ Fx.rungOf Ieee.double b = Ieee.double.infRung := by
        intro hi
        have hr := Fx.read_inf Ieee.double h64 hi
        simp [floatToFloatBits, FloatKind.decode, FloatKind.format, hr] at hf
      have hr := Fx.read_number Ieee.double h64 (show Fx.rungOf Ieee.double b < Ieee.double.infRung by omega)
      have ho : (Ieee.single.read (Ieee.single.write (.number (Fx.negOf Ieee.double b) (Fx.magOf Ieee.double (Fx.rungOf Ieee.double b)) (Fx.placeOf Ieee.double (Fx.rungOf Ieee.double b))))).isInfinity = true := by
        rw [ftf_eq hr] at hf
        by_cases h : (Ieee.single.read (Ieee.single.write (.number (Fx.negOf Ieee.double b) (Fx.magOf Ieee.double (Fx.rungOf Ieee.double b)) (Fx.placeOf Ieee.double (Fx.rungOf Ieee.double b))))).isInfinity = true
        · exact h
        · rw [if_neg h] at hf; cases hf
      refine ⟨(Question.floatToFloat b).cut (w.tape w.drawn (.floatToFloat b)), { w with drawn := w.drawn + 1 }, ?_, .inr rfl, fun h => (by rw [hnn] at h; cases h), fun s h' => (by cases h'), Nat.mod_lt _ (by decide)⟩
      simp [convert, run_underlying hu1, run_underlying hu2, Conv.floatToFloat, FloatKind.decode, FloatKind.encode, FloatKind.format, hr, ho]
      intro h
      exact absurd h (by simp [Question.forced])
theorem wun64_3 (x : Int) (w : World) {r : Nat} {w1 : World} (hrun : (callFunc 212 #[.float .f64 x.toNat]).run Tryz.prog w = .ok (.value (.float .f64 r)) w1) (hb : Below w.heap.size w w1) :
    Calls Tryz.prog 115 #[.int .i64 64, .int .i64 3, .int .u64 x] w fun e w' => e = .returned (.tuple #[.int .u64 (if (od r r != some .eq) = true then 9221120237041090560 else (r : Int)), .int .i64 0]) ∧ Below w.heap.size w w' := by
  go_enter Tryz.func115, Tryz.ntmps115
  go_wp2
  all_goals (go_ret2; refine ⟨?_, hb⟩)
  all_goals (clear hrun hb; first | (simp_all; done) | (simp_all; omega))
theorem wun32_3 (x : Int) (w : World) (hx : 0 ≤ x) {a r s : Nat} {w1 w2 w3 : World} (hrun1 : (convert 147 143 (.float .f32 (x % 4294967296).toNat)).run Tryz.prog w = .ok (.float .f64 a) w1) (hrun2 : (callFunc 212 #[.float .f64 a]).run Tryz.prog w1 = .ok (.value (.float .f64 r)) w2)
    (hrun3 : (convert 143 147 (.float .f64 r)).run Tryz.prog w2 = .ok (.float .f32 s) w3) (hs : s < 2 ^ 32) (hb : Below w.heap.size w w3) :
    Calls Tryz.prog 115 #[.int .i64 32, .int .i64 3, .int .u64 x] w fun e w' => e = .returned (.tuple #[.int .u64 (if (od4 s s != some .eq) = true then 2143289344 else (s : Int)), .int .i64 0]) ∧ Below w.heap.size w w' := by
  go_enter Tryz.func115, Tryz.ntmps115
  go_wp2
  all_goals (go_ret2; refine ⟨?_, hb⟩)
  all_goals (clear hrun1 hrun2 hrun3 hb; first | (simp_all; done) | (simp_all; omega))
theorem wun64_4 (x : Int) (w : World) {r : Nat} {w1 : World} (hrun : (callFunc 213 #[.float .f64 x.toNat]).run Tryz.prog w = .ok (.value (.float .f64 r)) w1) (hb : Below w.heap.size w w1) :
    Calls Tryz.prog 115 #[.int .i64 64, .int .i64 4, .int .u64 x] w fun e w' => e = .returned (.tuple #[.int .u64 (if (od r r != some .eq) = true then 9221120237041090560 else (r : Int)), .int .i64 0]) ∧ Below w.heap.size w w' := by
  go_enter Tryz.func115, Tryz.ntmps115
  go_wp2
  all_goals (go_ret2; refine ⟨?_, hb⟩)
  all_goals (clear hrun hb; first | (simp_all; done) | (simp_all; omega))
theorem wun32_4 (x : Int) (w : World) (hx : 0 ≤ x) {a r s : Nat} {w1 w2 w3 : World} (hrun1 : (convert 147 143 (.float .f32 (x % 4294967296).toNat)).run Tryz.prog w = .ok (.float .f64 a) w1) (hrun2 : (callFunc 213 #[.float .f64 a]).run Tryz.prog w1 = .ok (.value (.float .f64 r)) w2)
    (hrun3 : (convert 143 147 (.float .f64 r)).run Tryz.prog w2 = .ok (.float .f32 s) w3) (hs : s < 2 ^ 32) (hb : Below w.heap.size w w3) :
    Calls Tryz.prog 115 #[.int .i64 32, .int .i64 4, .int .u64 x] w fun e w' => e = .returned (.tuple #[.int .u64 (if (od4 s s != some .eq) = true then 2143289344 else (s : Int)), .int .i64 0]) ∧ Below w.heap.size w w' := by
  go_enter Tryz.func115, Tryz.ntmps115
  go_wp2
  all_goals (go_ret2; refine ⟨?_, hb⟩)
  all_goals (clear hrun1 hrun2 hrun3 hb; first | (simp_all; done) | (simp_all; omega))
theorem wun64_5 (x : Int) (w : World) {r : Nat} {w1 : World} (hrun : (callFunc 215 #[.float .f64 x.toNat]).run Tryz.prog w = .ok (.value (.float .f64 r)) w1) (hb : Below w.heap.size w w1) :
    Calls Tryz.prog 115 #[.int .i64 64, .int .i64 5, .int .u64 x] w fun e w' => e = .returned (.tuple #[.int .u64 (if (od r r != some .eq) = true then 9221120237041090560 else (r : Int)), .int .i64 0]) ∧ Below w.heap.size w w' := by
  go_enter Tryz.func115, Tryz.ntmps115
  go_wp2
  all_goals (go_ret2; refine ⟨?_, hb⟩)
  all_goals (clear hrun hb; first | (simp_all; done) | (simp_all; omega))
theorem wun32_5 (x : Int) (w : World) (hx : 0 ≤ x) {a r s : Nat} {w1 w2 w3 : World} (hrun1 : (convert 147 143 (.float .f32 (x % 4294967296).toNat)).run Tryz.prog w = .ok (.float .f64 a) w1) (hrun2 : (callFunc 215 #[.float .f64 a]).run Tryz.prog w1 = .ok (.value (.float .f64 r)) w2)
    (hrun3 : (convert 143 147 (.float .f64 r)).run Tryz.prog w2 = .ok (.float .f32 s) w3) (hs : s < 2 ^ 32) (hb : Below w.heap.size w w3) :
    Calls Tryz.prog 115 #[.int .i64 32, .int .i64 5, .int .u64 x] w fun e w' => e = .returned (.tuple #[.int .u64 (if (od4 s s != some .eq) = true then 2143289344 else (s : Int)), .int .i64 0]) ∧ Below w.heap.size w w' := by
  go_enter Tryz.func115, Tryz.ntmps115
  go_wp2
  all_goals (go_ret2; refine ⟨?_, hb⟩)
  all_goals (clear hrun1 hrun2 hrun3 hb; first | (simp_all; done) | (simp_all; omega))
theorem wun64_6 (x : Int) (w : World) {r : Nat} {w1 : World} (hrun : (callFunc 217 #[.float .f64 x.toNat]).run Tryz.prog w = .ok (.value (.float .f64 r)) w1) (hb : Below w.heap.size w w1) :
    Calls Tryz.prog 115 #[.int .i64 64, .int .i64 6, .int .u64 x] w fun e w' => e = .returned (.tuple #[.int .u64 (if (od r r != some .eq) = true then 9221120237041090560 else (r : Int)), .int .i64 0]) ∧ Below w.heap.size w w' := by
  go_enter Tryz.func115, Tryz.ntmps115
  go_wp2
  all_goals (go_ret2; refine ⟨?_, hb⟩)
  all_goals (clear hrun hb; first | (simp_all; done) | (simp_all; omega))
theorem wun32_6 (x : Int) (w : World) (hx : 0 ≤ x) {a r s : Nat} {w1 w2 w3 : World} (hrun1 : (convert 147 143 (.float .f32 (x % 4294967296).toNat)).run Tryz.prog w = .ok (.float .f64 a) w1) (hrun2 : (callFunc 217 #[.float .f64 a]).run Tryz.prog w1 = .ok (.value (.float .f64 r)) w2)
    (hrun3 : (convert 143 147 (.float .f64 r)).run Tryz.prog w2 = .ok (.float .f32 s) w3) (hs : s < 2 ^ 32) (hb : Below w.heap.size w w3) :
    Calls Tryz.prog 115 #[.int .i64 32, .int .i64 6, .int .u64 x] w fun e w' => e = .returned (.tuple #[.int .u64 (if (od4 s s != some .eq) = true then 2143289344 else (s : Int)), .int .i64 0]) ∧ Below w.heap.size w w' := by
  go_enter Tryz.func115, Tryz.ntmps115
  go_wp2
  all_goals (go_ret2; refine ⟨?_, hb⟩)
  all_goals (clear hrun1 hrun2 hrun3 hb; first | (simp_all; done) | (simp_all; omega))
theorem wun64_7 (x : Int) (w : World) {r : Nat} {w1 : World} (hrun : (callFunc 181 #[.float .f64 x.toNat]).run Tryz.prog w = .ok (.value (.float .f64 r)) w1) (hb : Below w.heap.size w w1) :
    Calls Tryz.prog 115 #[.int .i64 64, .int .i64 7, .int .u64 x] w fun e w' => e = .returned (.tuple #[.int .u64 (if (od r r != some .eq) = true then 9221120237041090560 else (r : Int)), .int .i64 0]) ∧ Below w.heap.size w w' := by
  go_enter Tryz.func115, Tryz.ntmps115
  go_wp2
  all_goals (go_ret2; refine ⟨?_, hb⟩)
  all_goals (clear hrun hb; first | (simp_all; done) | (simp_all; omega))
theorem wun32_7 (x : Int) (w : World) (hx : 0 ≤ x) {a r s : Nat} {w1 w2 w3 : World} (hrun1 : (convert 147 143 (.float .f32 (x % 4294967296).toNat)).run Tryz.prog w = .ok (.float .f64 a) w1) (hrun2 : (callFunc 181 #[.float .f64 a]).run Tryz.prog w1 = .ok (.value (.float .f64 r)) w2)
    (hrun3 : (convert 143 147 (.float .f64 r)).run Tryz.prog w2 = .ok (.float .f32 s) w3) (hs : s < 2 ^ 32) (hb : Below w.heap.size w w3) :
    Calls Tryz.prog 115 #[.int .i64 32, .int .i64 7, .int .u64 x] w fun e w' => e = .returned (.tuple #[.int .u64 (if (od4 s s != some .eq) = true then 2143289344 else (s : Int)), .int .i64 0]) ∧ Below w.heap.size w w' := by
  go_enter Tryz.func115, Tryz.ntmps115
  go_wp2
  all_goals (go_ret2; refine ⟨?_, hb⟩)
  all_goals (clear hrun1 hrun2 hrun3 hb; first | (simp_all; done) | (simp_all; omega))

end Sx
end Go.Proofs.YtfdggebddcoeeaaGreatDoor
end
