/-
  A float of 32 bits as one of 64, and how two stand: the same.
-/
import Derived.Test.YtfdggebddcoeeaaGreatDoorTyFr
set_option linter.unusedVariables false
set_option linter.unusedSimpArgs false
namespace Go.Proofs.YtfdggebddcoeeaaGreatDoor
namespace Fx
open Ieee

section
variable (f : Format)
theorem inf_lt_sign : f.infRung < f.signWeight := by
  unfold Format.infRung Format.binade Format.signWeight
  rw [pow_split f.exponentBits f.fractionBits]
  have h1 := Nat.two_pow_pos f.exponentBits
  exact Nat.mul_lt_mul_of_pos_right (by omega) (Nat.two_pow_pos _)
theorem word_rung {s : Bool} {r : Nat} (h : r < f.signWeight) : rungOf f (f.word s r) = r := by
  unfold rungOf Format.word
  cases s
  · simp [Nat.mod_eq_of_lt h]
  · simp [Nat.mod_eq_of_lt h]
theorem word_neg {s : Bool} {r : Nat} (h : r < f.signWeight) : negOf f (f.word s r) = s := by
  have hp : 0 < f.signWeight := Nat.two_pow_pos _
  unfold negOf Format.word
  cases s
  · simp [Nat.div_eq_of_lt h]
  · simp [Nat.add_div_left _ hp, Nat.div_eq_of_lt h]
theorem rung_le_inf (n : Nat) (p : Int) : rung f n p ≤ f.infRung := by
  unfold rung
  split
  · omega
  · exact Nat.min_le_right ..
end

/-- a datum of 32 bits and one of 64 that stand for the same -/
def Same (d e : Datum) : Prop := match d with
  | .number s m i => ∃ n j, e = .number s n j ∧ double.leastPlace ≤ i ∧ double.leastPlace ≤ j ∧ m * 2 ^ (i - double.leastPlace).toNat = n * 2 ^ (j - double.leastPlace).toNat
  | .infinity s => e = .infinity s
  | .nan .. => e.isNaN = true
theorem same_order {d d' e e' : Datum} (h : Same d d') (h' : Same e e') : d.order e = d'.order e' := by
  have sg : ∀ (s : Bool) {m n : Nat} {i j : Int}, m * 2 ^ (i - double.leastPlace).toNat = n * 2 ^ (j - double.leastPlace).toNat → Ieee.signed s m (i - double.leastPlace).toNat = Ieee.signed s n (j - double.leastPlace).toNat := by
    intro s m n i j hh
    unfold Ieee.signed
    rw [Nat.shiftLeft_eq, Nat.shiftLeft_eq, hh]
  cases d with
  | number s m i =>
    obtain ⟨n, j, rfl, h1, h2, h3⟩ := h
    cases e with
    | number t p k =>
      obtain ⟨q, l, rfl, g1, g2, g3⟩ := h'
      rw [order_at _ _ _ _ _ _ _ h1 g1, order_at _ _ _ _ _ _ _ h2 g2, sg s h3, sg t g3]
    | infinity t => cases h'; rfl
    | nan t p => cases e' <;> simp [Same, Datum.isNaN] at h'; rfl
  | infinity s =>
    cases h
    cases e with
    | number t p k => obtain ⟨q, l, rfl, _⟩ := h'; rfl
    | infinity t => cases h'; rfl
    | nan t p => cases e' <;> simp [Same, Datum.isNaN] at h'; rfl
  | nan s p =>
    cases d' <;> simp [Same, Datum.isNaN] at h
    rfl
/-- the place of a float of 32 bits, and its size -/
theorem single_bounds {a : Nat} (h : rungOf single a < single.infRung) : magOf single (rungOf single a) < 2 ^ 24 ∧ -149 ≤ placeOf single (rungOf single a) ∧ placeOf single (rungOf single a) ≤ 104 := by
  have hb : single.binade = 8388608 := by decide
  have hi : single.infRung = 2139095040 := by decide
  have hl : single.leastPlace = -149 := by decide
  rw [hi] at h
  unfold magOf placeOf
  rw [hb, hl]
  generalize rungOf single a = r at *
  split
  · omega
  · omega
theorem double_rung_small {n : Nat} {p : Int} (hn : n < 2 ^ 53) (hp : p ≤ 900) : rung double n p < double.infRung := by
  have hb : double.binade = 4503599627370496 := by decide
  have hi : double.infRung = 9218868437227405312 := by decide
  have hl : double.leastPlace = -1074 := by decide
  have hf : double.fractionBits = 52 := rfl
  unfold rung
  split
  · rw [hi]; omega
  · rename_i h0
    have hlog : n.log2 < 53 := (Nat.log2_lt h0).2 hn
    have hbd := log2_bounds h0
    refine Nat.lt_of_le_of_lt (Nat.min_le_left ..) ?_
    have hlast : lastP double n p = max (p + n.log2 - 52) (-1074) := by unfold lastP; rw [hf, hl]; rfl
    rw [hlast, hb, hi, hl]
    by_cases hc : max (p + (n.log2 : Int) - 52) (-1074) ≤ p
    · have e1 : (max (p + (n.log2 : Int) - 52) (-1074) - p).toNat = 0 := by omega
      rw [e1, rnd_zero]
      have h1 : n * 2 ^ (p - max (p + (n.log2 : Int) - 52) (-1074)).toNat < 2 ^ 53 := by
        have hle : n.log2 + 1 + (p - max (p + (n.log2 : Int) - 52) (-1074)).toNat ≤ 53 := by omega
        have h2 : n * 2 ^ (p - max (p + (n.log2 : Int) - 52) (-1074)).toNat < 2 ^ (n.log2 + 1) * 2 ^ (p - max (p + (n.log2 : Int) - 52) (-1074)).toNat := Nat.mul_lt_mul_of_pos_right hbd.2 (Nat.two_pow_pos _)
        rw [← pow_split] at h2
        exact Nat.lt_of_lt_of_le h2 (Nat.pow_le_pow_right (by decide) hle)
      have h3 : (max (p + (n.log2 : Int) - 52) (-1074) - -1074).toNat ≤ 1974 := by omega
      generalize n * 2 ^ (p - max (p + (n.log2 : Int) - 52) (-1074)).toNat = K at *
      generalize (max (p + (n.log2 : Int) - 52) (-1074) - -1074).toNat = L at *
      omega
    · have e1 : max (p + (n.log2 : Int) - 52) (-1074) = -1074 := by omega
      rw [e1]
      have e2 : (p - -1074 : Int).toNat = 0 := by omega
      have e3 : ((-1074 : Int) - -1074).toNat = 0 := by omega
      rw [e2, e3, Nat.pow_zero, Nat.mul_one, Nat.zero_mul, Nat.zero_add]
      have : rnd n (-1074 - p).toNat ≤ n + 1 := by
        unfold rnd
        have := Nat.div_le_self n (2 ^ (-1074 - p).toNat)
        split <;> omega
      omega
/-- what 'float64(x)' makes of a float of 32 bits that is no NaN -/
def widen (a : Nat) : Nat := if rungOf single a = single.infRung then double.word (negOf single a) double.infRung else double.word (negOf single a) (rung double (magOf single (rungOf single a)) (placeOf single (rungOf single a)))
theorem widen_same {a : Nat} (h : rungOf single a ≤ single.infRung) : Same (single.read a) (double.read (widen a)) := by
  have h32 : (2 : Nat) ≤ single.exponentBits := by decide
  have h64 : (2 : Nat) ≤ double.exponentBits := by decide
  unfold widen
  by_cases hi : rungOf single a = single.infRung
  · rw [if_pos hi, read_inf single h32 hi]
    have hr := word_rung double (s := negOf single a) (inf_lt_sign double)
    rw [read_inf double h64 hr, word_neg double (inf_lt_sign double)]
    rfl
  · rw [if_neg hi]
    have hlt : rungOf single a < single.infRung := by omega
    rw [read_number single h32 hlt]
    obtain ⟨b1, b2, b3⟩ := single_bounds hlt
    have hsmall := double_rung_small (n := magOf single (rungOf single a)) (p := placeOf single (rungOf single a)) (by omega) (by omega)
    have hs : rung double (magOf single (rungOf single a)) (placeOf single (rungOf single a)) < double.signWeight := Nat.lt_trans hsmall (inf_lt_sign double)
    have hr := word_rung double (s := negOf single a) hs
    rw [read_number double h64 (by rw [hr]; exact hsmall), word_neg double hs, hr]
    have hl : double.leastPlace = -1074 := by decide
    refine ⟨_, _, rfl, by rw [hl]; omega, place_ge double _, ?_⟩
    rw [← units_eq, units_rung double (by show _ < 2 ^ 53; omega) (by rw [hl]; omega) hsmall]

end Fx
end Go.Proofs.YtfdggebddcoeeaaGreatDoor
