/-
  A part of the proof.
-/
import Derived.Test.YtfdggebddcoeeaaGreatDoorTySmC
import Derived.Test.YtfdggebddcoeeaaGreatDoorTyFo
import Derived.Tactics
import Derived.Tactics2
import Derived.StillTactics
import Derived.Laws.FloatArith
import Derived.KernelRfl
set_option linter.unusedVariables false
set_option linter.unusedSimpArgs false
set_option maxRecDepth 100000
namespace Go.Proofs.YtfdggebddcoeeaaGreatDoor
namespace Sx
open Go Go.RowKit
open Fx (widen isNaN rungOf negOf)
theorem run_extern {P : Program} {f : FuncId} {fn : Func} {e : Array Value → Sem Value} (hf : P.funcs[f]? = some fn) (hn : (fn.name == "runtime.NumGoroutine") = false) (hb : fn.body.isNone = true) (h1 : Extern.findNext fn = none) (h2 : Extern.find fn = some e)
    {args : Array Value} {w : World} {v : Value} (hr : (e args).run P w = .ok v w) : (callFunc f args).run P w = .ok (.value v) w := by
  have hpr : (program).run P w = .ok P w := rfl
  simp only [callFunc, Sem.run_bind, hpr, Result.andThen_ok, hf, hn, hb, h1, h2, Bool.false_eq_true, if_false, if_true, Sem.run_pure, run_mark, hr]
theorem ext226 : ∃ fn, Tryz.prog.funcs[226]? = some fn ∧ (fn.name == "runtime.NumGoroutine") = false ∧ fn.body.isNone = true ∧ Extern.findNext fn = none ∧ Extern.find fn = some Extern.MathFloatBits.float64frombits := ⟨_, Tryz.func226, by kernel_rfl, rfl, by kernel_rfl, by kernel_rfl⟩
@[go_sem] theorem call226 (x : Int) (w : World) : (callFunc 226 #[.int .u64 x]).run Tryz.prog w = .ok (.value (.float .f64 x.toNat)) w := by
  obtain ⟨fn, f1, f2, f3, f4, f5⟩ := ext226
  exact run_extern f1 f2 f3 f4 f5 rfl
theorem ext210 : ∃ fn, Tryz.prog.funcs[210]? = some fn ∧ (fn.name == "runtime.NumGoroutine") = false ∧ fn.body.isNone = true ∧ Extern.findNext fn = none ∧ Extern.find fn = some Extern.MathFloatBits.float32frombits := ⟨_, Tryz.func210, by kernel_rfl, rfl, by kernel_rfl, by kernel_rfl⟩
@[go_sem] theorem call210 (x : Int) (w : World) : (callFunc 210 #[.int .u32 x]).run Tryz.prog w = .ok (.value (.float .f32 x.toNat)) w := by
  obtain ⟨fn, f1, f2, f3, f4, f5⟩ := ext210
  exact run_extern f1 f2 f3 f4 f5 rfl
/-- a draw more -/
def Drew (w w' : World) : Prop := w' = w ∨ w' = { w with drawn := w.drawn + 1 }
theorem nan64 (t : Nat) : isNaN Ieee.double ((Question.nanConv .f64 0).cut t) = true := by
  have e : (Question.nanConv .f64 0).cut t = (t % 2) * 2 ^ 63 + 0x7ff0000000000000 + 1 + (t / 2) % (2 ^ 52 - 1) := rfl
  rw [e]
  unfold isNaN rungOf
  have hs : Ieee.double.signWeight = 2 ^ 63 := by decide
  have hi : Ieee.double.infRung = 0x7ff0000000000000 := by decide
  rw [hs, hi]
  have h1 := Nat.mod_lt (t / 2) (show 0 < 2 ^ 52 - 1 by decide)
  have h2 := Nat.mod_two_eq_zero_or_one t
  generalize t / 2 % (2 ^ 52 - 1) = u at *
  refine decide_eq_true ?_
  rcases h2 with h2 | h2 <;> rw [h2] <;> omega
theorem conv_wide (b : Nat) (w : World) : ∃ r w', (convert 147 143 (.float .f32 b)).run Tryz.prog w = .ok (.float .f64 r) w' ∧ Drew w w' ∧ (isNaN Ieee.single b = false → r = widen b) ∧ (isNaN Ieee.single b = true → isNaN Ieee.double r = true) := by
  have h32 : (2 : Nat) ≤ Ieee.single.exponentBits := by decide
  have hu1 := Tryz.underlying147
  have hu2 := Tryz.underlying143
  by_cases hn : Ieee.single.infRung < rungOf Ieee.single b
  · have hr := Fx.read_nan Ieee.single h32 hn
    refine ⟨(Question.nanConv .f64 b).cut (w.tape w.drawn (.nanConv .f64 b)), { w with drawn := w.drawn + 1 }, ?_, .inr rfl, fun h => by simp [isNaN, hn] at h, fun _ => nan64 _⟩
    simp [convert, run_underlying hu1, run_underlying hu2, Conv.floatToFloat, FloatKind.decode, FloatKind.format, hr]
    intro h
    exact absurd h (by simp [Question.forced])
  · have hnn : isNaN Ieee.single b = false := by simp [isNaN, hn]
    have hle : rungOf Ieee.single b ≤ Ieee.single.infRung := by omega
    have hlt64 := Fx.inf_lt_sign Ieee.double
    refine ⟨widen b, w, ?_, .inl rfl, fun _ => rfl, fun h => by rw [hnn] at h; cases h⟩
    by_cases hi : rungOf Ieee.single b = Ieee.single.infRung
    · have hr := Fx.read_inf Ieee.single h32 hi
      simp [convert, run_underlying hu1, run_underlying hu2, Conv.floatToFloat, FloatKind.decode, FloatKind.format, FloatKind.encode, hr, Ieee.Format.write, widen, hi]
    · have hlt : rungOf Ieee.single b < Ieee.single.infRung := by omega
      have hr := Fx.read_number Ieee.single h32 hlt
      obtain ⟨b1, b2, b3⟩ := Fx.single_bounds hlt
      have hsmall := Fx.double_rung_small (n := Fx.magOf Ieee.single (rungOf Ieee.single b)) (p := Fx.placeOf Ieee.single (rungOf Ieee.single b)) (by omega) (by omega)
      have hw : Ieee.double.nearest (negOf Ieee.single b) (Fx.magOf Ieee.single (rungOf Ieee.single b)) (Fx.placeOf Ieee.single (rungOf Ieee.single b)) = widen b := by
        rw [Fx.nearest_eq, widen, if_neg hi]
      have hfin : (Ieee.double.read (widen b)).isInfinity = false := by
        have hs := Fx.widen_same hle
        rw [hr] at hs
        obtain ⟨n, j, e, _⟩ := hs
        rw [e]
        rfl
      simp [convert, run_underlying hu1, run_underlying hu2, Conv.floatToFloat, FloatKind.decode, FloatKind.format, FloatKind.encode, hr, Ieee.Format.write, hw, hfin]
theorem value32 (x : Int) (w : World) : Calls Tryz.prog 170 #[.int .i64 32, .int .u64 x] w fun e w' => ∃ r, e = .returned (.float .f64 r) ∧ Drew w w' ∧ (isNaN Ieee.single (x % 4294967296).toNat = false → r = widen (x % 4294967296).toNat) ∧ (isNaN Ieee.single (x % 4294967296).toNat = true → isNaN Ieee.double r = true) := by
  obtain ⟨r, w', hrun, h1, h2, h3⟩ := conv_wide (x % 4294967296).toNat w
  go_enter Tryz.func170, Tryz.ntmps170
  go_wp2
  all_goals (go_ret; exact ⟨r, rfl, h1, h2, h3⟩)
theorem value64 (x : Int) (w : World) : Calls Tryz.prog 170 #[.int .i64 64, .int .u64 x] w fun e w' => e = .returned (.float .f64 x.toNat) ∧ w' = w := by
  go_enter Tryz.func170, Tryz.ntmps170
  go_wp2
  all_goals (go_ret; exact ⟨rfl, rfl⟩)
end Sx
end Go.Proofs.YtfdggebddcoeeaaGreatDoor
