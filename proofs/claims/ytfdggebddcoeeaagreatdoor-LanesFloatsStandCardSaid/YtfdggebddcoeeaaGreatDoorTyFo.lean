/-
  How two floats stand, by their rungs and signs.
-/
import Derived.Test.YtfdggebddcoeeaaGreatDoorTyFc
set_option linter.unusedVariables false
set_option linter.unusedSimpArgs false
namespace Go.Proofs.YtfdggebddcoeeaaGreatDoor
namespace Fx
open Ieee
variable (f : Format)

def isNaN (a : Nat) : Bool := decide (f.infRung < rungOf f a)
/-- is a below b? (by rungs and signs) -/
def below (a b : Nat) : Bool := match negOf f a, negOf f b with
  | true, true => decide (rungOf f b < rungOf f a)
  | true, false => decide (¬ (rungOf f a = 0 ∧ rungOf f b = 0))
  | false, true => false
  | false, false => decide (rungOf f a < rungOf f b)
theorem units_pos {r : Nat} : 0 < units f r ↔ r ≠ 0 := by
  constructor
  · intro h e; rw [e, units_zero] at h; omega
  · intro h
    have := units_lt f (show 0 < r by omega)
    omega
theorem sgU_lt (a b : Nat) : sgU f a < sgU f b ↔ below f a b = true := by
  have h1 := @units_lt_iff f (rungOf f a) (rungOf f b)
  have h2 := @units_lt_iff f (rungOf f b) (rungOf f a)
  have pa := @units_pos f (rungOf f a)
  have pb := @units_pos f (rungOf f b)
  unfold sgU below
  cases negOf f a <;> cases negOf f b <;> simp <;> omega
theorem order_lt (he : 2 ≤ f.exponentBits) (a b : Nat) : (f.order a b = some .lt) ↔ (isNaN f a = false ∧ isNaN f b = false ∧ below f a b = true) := by
  unfold isNaN
  by_cases ha : f.infRung < rungOf f a
  · simp [ha, order_nan f he (.inl ha)]
  · by_cases hb : f.infRung < rungOf f b
    · simp [hb, order_nan f he (.inr hb)]
    · rw [order_eq f he (by omega) (by omega), ← sgU_lt]
      simp [ha, hb, Int.compare_eq_lt]
theorem order_gt (he : 2 ≤ f.exponentBits) (a b : Nat) : (f.order a b = some .gt) ↔ (isNaN f a = false ∧ isNaN f b = false ∧ below f b a = true) := by
  unfold isNaN
  by_cases ha : f.infRung < rungOf f a
  · simp [ha, order_nan f he (.inl ha)]
  · by_cases hb : f.infRung < rungOf f b
    · simp [hb, order_nan f he (.inr hb)]
    · rw [order_eq f he (by omega) (by omega), ← sgU_lt]
      simp [ha, hb, Int.compare_eq_gt]
theorem order_eq' (he : 2 ≤ f.exponentBits) (a b : Nat) : (f.order a b = some .eq) ↔ (isNaN f a = false ∧ isNaN f b = false ∧ below f a b = false ∧ below f b a = false) := by
  have h1 := order_lt f he a b
  have h2 := order_gt f he a b
  unfold isNaN at *
  by_cases ha : f.infRung < rungOf f a
  · simp [ha, order_nan f he (.inl ha)]
  · by_cases hb : f.infRung < rungOf f b
    · simp [hb, order_nan f he (.inr hb)]
    · have e := order_eq f he (show rungOf f a ≤ f.infRung by omega) (show rungOf f b ≤ f.infRung by omega)
      rw [e] at h1 h2 ⊢
      cases hc : compare (sgU f a) (sgU f b) <;> rw [hc] at h1 h2 <;> simp [ha, hb] at h1 h2 ⊢
      · simp [h1]
      · exact ⟨by simpa using h1, by simpa using h2⟩
      · simp [h2]
theorem order_none (he : 2 ≤ f.exponentBits) (a b : Nat) : f.order a b = none ↔ (isNaN f a = true ∨ isNaN f b = true) := by
  unfold isNaN
  by_cases ha : f.infRung < rungOf f a
  · simp [ha, order_nan f he (.inl ha)]
  · by_cases hb : f.infRung < rungOf f b
    · simp [hb, order_nan f he (.inr hb)]
    · rw [order_eq f he (by omega) (by omega)]
      simp [ha, hb]
/-- two floats of 32 bits, widened, stand as they stood -/
theorem order_widen {a b : Nat} (ha : rungOf single a ≤ single.infRung) (hb : rungOf single b ≤ single.infRung) : double.order (widen a) (widen b) = single.order a b := (same_order (widen_same ha) (widen_same hb)).symm

end Fx
end Go.Proofs.YtfdggebddcoeeaaGreatDoor
