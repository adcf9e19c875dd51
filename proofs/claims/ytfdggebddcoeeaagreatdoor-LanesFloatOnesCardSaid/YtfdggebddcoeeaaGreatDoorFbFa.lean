/-
  The reference's sums, differences, products, quotients of two floats: walks.
-/
import Derived.Test.YtfdggebddcoeeaaGreatDoorFbPart3
set_option linter.unusedVariables false
set_option linter.unusedSimpArgs false
set_option maxRecDepth 100000
noncomputable section
namespace Go.Proofs.YtfdggebddcoeeaaGreatDoor
namespace Sx
open Go Go.RowKit

theorem ext209 : ∃ fn, Tryz.prog.funcs[209]? = some fn ∧ (fn.name == "runtime.NumGoroutine") = false ∧ fn.body.isNone = true ∧ Extern.findNext fn = none ∧ Extern.find fn = some Extern.MathFloatBits.float64bits := ⟨_, Tryz.func209, by kernel_rfl, rfl, by kernel_rfl, by kernel_rfl⟩
@[go_sem] theorem call209 (b : Nat) (w : World) : (callFunc 209 #[.float .f64 b]).run Tryz.prog w = .ok (.value (.int .u64 b)) w := by
  obtain ⟨fn, f1, f2, f3, f4, f5⟩ := ext209
  exact run_extern f1 f2 f3 f4 f5 rfl
theorem ext211 : ∃ fn, Tryz.prog.funcs[211]? = some fn ∧ (fn.name == "runtime.NumGoroutine") = false ∧ fn.body.isNone = true ∧ Extern.findNext fn = none ∧ Extern.find fn = some Extern.MathFloatBits.float32bits := ⟨_, Tryz.func211, by kernel_rfl, rfl, by kernel_rfl, by kernel_rfl⟩
@[go_sem] theorem call211 (b : Nat) (w : World) : (callFunc 211 #[.float .f32 b]).run Tryz.prog w = .ok (.value (.int .u32 b)) w := by
  obtain ⟨fn, f1, f2, f3, f4, f5⟩ := ext211
  exact run_extern f1 f2 f3 f4 f5 rfl
theorem nan32 (t : Nat) : Fx.isNaN Ieee.single ((Question.nanBits .f32 0 0).cut t) = true := by
  have e : (Question.nanBits .f32 0 0).cut t = (t % 2) * 2 ^ 31 + 0x7f800000 + 1 + (t / 2) % (2 ^ 23 - 1) := rfl
  rw [e]
  unfold Fx.isNaN Fx.rungOf
  have hs : Ieee.single.signWeight = 2 ^ 31 := by decide
  have hi : Ieee.single.infRung = 0x7f800000 := by decide
  rw [hs, hi]
  have h1 := Nat.mod_lt (t / 2) (show 0 < 2 ^ 23 - 1 by decide)
  have h2 := Nat.mod_two_eq_zero_or_one t
  generalize t / 2 % (2 ^ 23 - 1) = u at *
  refine decide_eq_true ?_
  rcases h2 with h2 | h2 <;> rw [h2] <;> omega
/-- an operation on floats: its bits, or some NaN -/
theorem arith_run (op : BinOp) (ho : op = .add ∨ op = .sub ∨ op = .mul ∨ op = .quo) (k : FloatKind) (a b : Nat) (w : World) : ∃ r w', (∀ t, (binOp op t (.float k a) (.float k b)).run Tryz.prog w = .ok (.float k r) w') ∧ Drew w w' ∧ (∀ s, floatBits op k a b = some s → r = s) ∧ (floatBits op k a b = none → Fx.isNaN k.format r = true) := by
  cases h : floatBits op k a b with
  | some s => exact ⟨s, w, fun t => run_float_arith w op t k a b s h, .inl rfl, fun s' h' => Option.some.inj h', fun h' => by cases h'⟩
  | none =>
    refine ⟨(Question.nanBits k a b).cut (w.tape w.drawn (.nanBits k a b)), { w with drawn := w.drawn + 1 }, fun t => ?_, .inr rfl, fun s h' => (by cases h'), fun _ => ?_⟩
    · unfold floatBits at h
      rcases ho with rfl | rfl | rfl | rfl <;> simp only at h <;> simp [binOp, Op.floatArith, h] <;> (intro h'; exact absurd h' (by simp [Question.forced]))
    · cases k with
      | f64 => exact nan64 _
      | f32 => exact nan32 _
abbrev od4 (x y : Nat) : Option Ordering := FloatKind.f32.format.order x y
def refAr (canon : Int) (a b : Nat) (r : Nat) (u : Bool) : Int :=
  if (od a a != some .eq) = true ∨ (od b b != some .eq) = true then canon else if u = true then canon else (r : Int)
theorem wbin64_1 (x y : Int) (w : World) {r : Nat} {w1 : World} (hrun : ∀ t, (binOp .add t (.float .f64 x.toNat) (.float .f64 y.toNat)).run Tryz.prog w = .ok (.float .f64 r) w1) (hb : Below w.heap.size w w1) :
    Calls Tryz.prog 114 #[.int .i64 64, .int .i64 1, .int .u64 x, .int .u64 y] w fun e w' => e = .returned (.tuple #[.int .u64 (refAr 9221120237041090560 x.toNat y.toNat r (od r r != some .eq)), .int .i64 0]) ∧ Below w.heap.size w w' := by
  go_enter Tryz.func114, Tryz.ntmps114
  go_wp2
  all_goals (go_ret2; refine ⟨?_, by first | exact hb | exact Below.refl _ _⟩)
  all_goals (clear hrun hb; unfold refAr; first | (simp_all; done) | (simp_all; omega))
theorem wbin32_1 (x y : Int) (w : World) (hx : 0 ≤ x) (hy : 0 ≤ y) {a b r : Nat} {w1 w2 w3 : World} (hrun1 : (convert 147 143 (.float .f32 (x % 4294967296).toNat)).run Tryz.prog w = .ok (.float .f64 a) w1) (hrun2 : (convert 147 143 (.float .f32 (y % 4294967296).toNat)).run Tryz.prog w1 = .ok (.float .f64 b) w2)
    (hrun3 : ∀ t, (binOp .add t (.float .f32 (x % 4294967296).toNat) (.float .f32 (y % 4294967296).toNat)).run Tryz.prog w2 = .ok (.float .f32 r) w3) (hr : r < 2 ^ 32) (hb2 : Below w.heap.size w w2) (hb3 : Below w.heap.size w w3) :
    Calls Tryz.prog 114 #[.int .i64 32, .int .i64 1, .int .u64 x, .int .u64 y] w fun e w' => e = .returned (.tuple #[.int .u64 (refAr 2143289344 a b r (od4 r r != some .eq)), .int .i64 0]) ∧ Below w.heap.size w w' := by
  go_enter Tryz.func114, Tryz.ntmps114
  go_wp2
  all_goals (go_ret2; refine ⟨?_, by first | exact hb3 | exact hb2⟩)
  all_goals (clear hrun1 hrun2 hrun3 hb2 hb3; unfold refAr; first | (simp_all; done) | (simp_all; omega))
theorem wbin64_2 (x y : Int) (w : World) {r : Nat} {w1 : World} (hrun : ∀ t, (binOp .sub t (.float .f64 x.toNat) (.float .f64 y.toNat)).run Tryz.prog w = .ok (.float .f64 r) w1) (hb : Below w.heap.size w w1) :
    Calls Tryz.prog 114 #[.int .i64 64, .int .i64 2, .int .u64 x, .int .u64 y] w fun e w' => e = .returned (.tuple #[.int .u64 (refAr 9221120237041090560 x.toNat y.toNat r (od r r != some .eq)), .int .i64 0]) ∧ Below w.heap.size w w' := by
  go_enter Tryz.func114, Tryz.ntmps114
  go_wp2
  all_goals (go_ret2; refine ⟨?_, by first | exact hb | exact Below.refl _ _⟩)
  all_goals (clear hrun hb; unfold refAr; first | (simp_all; done) | (simp_all; omega))
theorem wbin32_2 (x y : Int) (w : World) (hx : 0 ≤ x) (hy : 0 ≤ y) {a b r : Nat} {w1 w2 w3 : World} (hrun1 : (convert 147 143 (.float .f32 (x % 4294967296).toNat)).run Tryz.prog w = .ok (.float .f64 a) w1) (hrun2 : (convert 147 143 (.float .f32 (y % 4294967296).toNat)).run Tryz.prog w1 = .ok (.float .f64 b) w2)
    (hrun3 : ∀ t, (binOp .sub t (.float .f32 (x % 4294967296).toNat) (.float .f32 (y % 4294967296).toNat)).run Tryz.prog w2 = .ok (.float .f32 r) w3) (hr : r < 2 ^ 32) (hb2 : Below w.heap.size w w2) (hb3 : Below w.heap.size w w3) :
    Calls Tryz.prog 114 #[.int .i64 32, .int .i64 2, .int .u64 x, .int .u64 y] w fun e w' => e = .returned (.tuple #[.int .u64 (refAr 2143289344 a b r (od4 r r != some .eq)), .int .i64 0]) ∧ Below w.heap.size w w' := by
  go_enter Tryz.func114, Tryz.ntmps114
  go_wp2
  all_goals (go_ret2; refine ⟨?_, by first | exact hb3 | exact hb2⟩)
  all_goals (clear hrun1 hrun2 hrun3 hb2 hb3; unfold refAr; first | (simp_all; done) | (simp_all; omega))
theorem wbin64_3 (x y : Int) (w : World) {r : Nat} {w1 : World} (hrun : ∀ t, (binOp .mul t (.float .f64 x.toNat) (.float .f64 y.toNat)).run Tryz.prog w = .ok (.float .f64 r) w1) (hb : Below w.heap.size w w1) :
    Calls Tryz.prog 114 #[.int .i64 64, .int .i64 3, .int .u64 x, .int .u64 y] w fun e w' => e = .returned (.tuple #[.int .u64 (refAr 9221120237041090560 x.toNat y.toNat r (od r r != some .eq)), .int .i64 0]) ∧ Below w.heap.size w w' := by
  go_enter Tryz.func114, Tryz.ntmps114
  go_wp2
  all_goals (go_ret2; refine ⟨?_, by first | exact hb | exact Below.refl _ _⟩)
  all_goals (clear hrun hb; unfold refAr; first | (simp_all; done) | (simp_all; omega))
theorem wbin32_3 (x y : Int) (w : World) (hx : 0 ≤ x) (hy : 0 ≤ y) {a b r : Nat} {w1 w2 w3 : World} (hrun1 : (convert 147 143 (.float .f32 (x % 4294967296).toNat)).run Tryz.prog w = .ok (.float .f64 a) w1) (hrun2 : (convert 147 143 (.float .f32 (y % 4294967296).toNat)).run Tryz.prog w1 = .ok (.float .f64 b) w2)
    (hrun3 : ∀ t, (binOp .mul t (.float .f32 (x % 4294967296).toNat) (.float .f32 (y % 4294967296).toNat)).run Tryz.prog w2 = .ok (.float .f32 r) w3) (hr : r < 2 ^ 32) (hb2 : Below w.heap.size w w2) (hb3 : Below w.heap.size w w3) :
    Calls Tryz.prog 114 #[.int .i64 32, .int .i64 3, .int .u64 x, .int .u64 y] w fun e w' => e = .returned (.tuple #[.int .u64 (refAr 2143289344 a b r (od4 r r != some .eq)), .int .i64 0]) ∧ Below w.heap.size w w' := by
  go_enter Tryz.func114, Tryz.ntmps114
  go_wp2
  all_goals (go_ret2; refine ⟨?_, by first | exact hb3 | exact hb2⟩)
  all_goals (clear hrun1 hrun2 hrun3 hb2 hb3; unfold refAr; first | (simp_all; done) | (simp_all; omega))
theorem wbin64_4 (x y : Int) (w : World) {r : Nat} {w1 : World} (hrun : ∀ t, (binOp .quo t (.float .f64 x.toNat) (.float .f64 y.toNat)).run Tryz.prog w = .ok (.float .f64 r) w1) (hb : Below w.heap.size w w1) :
    Calls Tryz.prog 114 #[.int .i64 64, .int .i64 4, .int .u64 x, .int .u64 y] w fun e w' => e = .returned (.tuple #[.int .u64 (refAr 9221120237041090560 x.toNat y.toNat r (od r r != some .eq)), .int .i64 0]) ∧ Below w.heap.size w w' := by
  go_enter Tryz.func114, Tryz.ntmps114
  go_wp2
  all_goals (go_ret2; refine ⟨?_, by first | exact hb | exact Below.refl _ _⟩)
  all_goals (clear hrun hb; unfold refAr; first | (simp_all; done) | (simp_all; omega))
theorem wbin32_4 (x y : Int) (w : World) (hx : 0 ≤ x) (hy : 0 ≤ y) {a b r : Nat} {w1 w2 w3 : World} (hrun1 : (convert 147 143 (.float .f32 (x % 4294967296).toNat)).run Tryz.prog w = .ok (.float .f64 a) w1) (hrun2 : (convert 147 143 (.float .f32 (y % 4294967296).toNat)).run Tryz.prog w1 = .ok (.float .f64 b) w2)
    (hrun3 : ∀ t, (binOp .quo t (.float .f32 (x % 4294967296).toNat) (.float .f32 (y % 4294967296).toNat)).run Tryz.prog w2 = .ok (.float .f32 r) w3) (hr : r < 2 ^ 32) (hb2 : Below w.heap.size w w2) (hb3 : Below w.heap.size w w3) :
    Calls Tryz.prog 114 #[.int .i64 32, .int .i64 4, .int .u64 x, .int .u64 y] w fun e w' => e = .returned (.tuple #[.int .u64 (refAr 2143289344 a b r (od4 r r != some .eq)), .int .i64 0]) ∧ Below w.heap.size w w' := by
  go_enter Tryz.func114, Tryz.ntmps114
  go_wp2
  all_goals (go_ret2; refine ⟨?_, by first | exact hb3 | exact hb2⟩)
  all_goals (clear hrun1 hrun2 hrun3 hb2 hb3; unfold refAr; first | (simp_all; done) | (simp_all; omega))

end Sx
end Go.Proofs.YtfdggebddcoeeaaGreatDoor
end
