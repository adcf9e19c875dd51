/-
  A part of the proof.
-/
import GoSem.Core.Float
import Derived.Tactics
import Derived.Tactics2
import Derived.StillTactics
import Derived.Laws.FloatArith
import Derived.KernelRfl
import Derived.Carry
import Derived.Test.YtfdggebddcoeeaaGreatDoorCards
import Derived.Test.YtfdggebddcoeeaaGreatDoorTie
import Derived.SevenTiedAt
import Derived.Stop.Joined
import Derived.OwnWalk
import Derived.Test.YtfdggebddcoeeaaGreatDoorFbPart2
set_option linter.unusedVariables false
set_option linter.unusedSimpArgs false
/-
  Rounding: the rung nearest to a number of units; a number cut short with its lost bits told by the last one rounds alike.
-/
namespace Go.Proofs.YtfdggebddcoeeaaGreatDoor
namespace Fx
open Ieee

/-- 'n / 2^d' to the nearest, between two the even one -/
def rnd (n d : Nat) : Nat := n / 2 ^ d + (if 2 ^ d < 2 * (n % 2 ^ d) ∨ (2 ^ d = 2 * (n % 2 ^ d) ∧ n / 2 ^ d % 2 = 1) then 1 else 0)
theorem rnd_zero (n : Nat) : rnd n 0 = n := by
  unfold rnd
  simp [Nat.mod_one]
theorem pow_split (a b : Nat) : 2 ^ (a + b) = 2 ^ a * 2 ^ b := Nat.pow_add ..
theorem mod_pow_add (n j e : Nat) : n % 2 ^ (j + e) = (n / 2 ^ j % 2 ^ e) * 2 ^ j + n % 2 ^ j := by
  rw [pow_split, Nat.mod_mul, Nat.mul_comm (2 ^ j), Nat.add_comm]
theorem div_pow_add (n j e : Nat) : n / 2 ^ (j + e) = n / 2 ^ j / 2 ^ e := by rw [pow_split, Nat.div_div_eq_div_mul]
theorem rnd_scale (n d k : Nat) : rnd (n * 2 ^ k) (k + d) = rnd n d := by
  have hp := Nat.two_pow_pos k
  have e1 : n * 2 ^ k / 2 ^ k = n := Nat.mul_div_cancel _ hp
  have e2 : n * 2 ^ k % 2 ^ k = 0 := Nat.mul_mod_left ..
  unfold rnd
  rw [mod_pow_add, div_pow_add, e1, e2, Nat.add_zero, pow_split]
  have h1 : (2 ^ k * 2 ^ d < 2 * (n % 2 ^ d * 2 ^ k)) ↔ 2 ^ d < 2 * (n % 2 ^ d) := by
    rw [Nat.mul_comm (2 ^ k), ← Nat.mul_assoc]
    exact Nat.mul_lt_mul_right hp
  have h2 : (2 ^ k * 2 ^ d = 2 * (n % 2 ^ d * 2 ^ k)) ↔ 2 ^ d = 2 * (n % 2 ^ d) := by
    rw [Nat.mul_comm (2 ^ k), ← Nat.mul_assoc]
    exact Nat.mul_left_inj (Nat.pos_iff_ne_zero.1 hp)
  simp only [h1, h2]
theorem log2_bounds {n : Nat} (h : n ≠ 0) : 2 ^ n.log2 ≤ n ∧ n < 2 ^ (n.log2 + 1) := ⟨Nat.log2_self_le h, Nat.lt_log2_self⟩
theorem cut_even (s : Bool) (n d : Nat) : Toward.even.cut s n d = rnd n d := by
  have key : ∀ d', (n / (1 <<< d') + (1 <<< d' < 2 * (n % (1 <<< d')) || (1 <<< d' == 2 * (n % (1 <<< d')) && n / (1 <<< d') % 2 == 1)).toNat) = rnd n d' := by
    intro d'
    unfold rnd
    rw [Nat.one_shiftLeft]
    congr 1
    by_cases h1 : 2 ^ d' < 2 * (n % 2 ^ d')
    · simp [h1]
    · rw [decide_eq_false h1, Bool.false_or]
      by_cases h2 : 2 ^ d' = 2 * (n % 2 ^ d')
      · rw [beq_iff_eq.2 h2, Bool.true_and]
        by_cases h3 : n / 2 ^ d' % 2 = 1
        · rw [beq_iff_eq.2 h3, if_pos (.inr ⟨h2, h3⟩)]; rfl
        · rw [beq_eq_false_iff_ne.2 h3, if_neg (fun h => h.elim h1 fun h => h3 h.2)]; rfl
      · rw [beq_eq_false_iff_ne.2 h2, if_neg (fun h => h.elim h1 fun h => h2 h.1)]; rfl
  show (n / (1 <<< min d (n.log2 + 2)) + (1 <<< min d (n.log2 + 2) < 2 * (n % (1 <<< min d (n.log2 + 2))) || (1 <<< min d (n.log2 + 2) == 2 * (n % (1 <<< min d (n.log2 + 2))) && n / (1 <<< min d (n.log2 + 2)) % 2 == 1)).toNat) = rnd n d
  rw [key]
  by_cases hd : d ≤ n.log2 + 2
  · rw [Nat.min_eq_left hd]
  · have hd' : n.log2 + 2 ≤ d := by omega
    rw [Nat.min_eq_right hd']
    have hlt : n < 2 ^ (n.log2 + 1) := Nat.lt_log2_self
    have small : ∀ k, n.log2 + 2 ≤ k → rnd n k = 0 := by
      intro k hk
      have h1 : 2 ^ (n.log2 + 2) ≤ 2 ^ k := Nat.pow_le_pow_right (by decide) hk
      have h2 : 2 ^ (n.log2 + 2) = 2 * 2 ^ (n.log2 + 1) := by rw [Nat.pow_succ]; omega
      have h3 : n < 2 ^ k := by omega
      unfold rnd
      rw [Nat.div_eq_of_lt h3, Nat.mod_eq_of_lt h3, if_neg (by omega)]
    rw [small _ (Nat.le_refl _), small d hd']

variable (f : Format)
/-- the place of the last digit that is kept -/
def lastP (n : Nat) (p : Int) : Int := max (p + n.log2 - f.fractionBits) f.leastPlace
/-- the rung nearest to n 2^p -/
def rung (n : Nat) (p : Int) : Nat := if n = 0 then 0 else
  min ((lastP f n p - f.leastPlace).toNat * f.binade + rnd (n * 2 ^ (p - lastP f n p).toNat) (lastP f n p - p).toNat) f.infRung
theorem nearest_eq (s : Bool) (n : Nat) (p : Int) : f.nearest s n p = f.word s (rung f n p) := by
  unfold Format.nearest rung
  by_cases h : n = 0
  · simp [h]
  · rw [if_neg h, if_neg h]
    simp only [cut_even, Nat.shiftLeft_eq, lastP]
theorem log2_scale {n : Nat} (h : n ≠ 0) (k : Nat) : (n * 2 ^ k).log2 = n.log2 + k := by
  have hb := log2_bounds h
  have hp := Nat.two_pow_pos k
  apply (Nat.log2_eq_iff (by have := Nat.mul_pos (Nat.pos_of_ne_zero h) hp; omega)).2
  constructor
  · rw [pow_split]; exact Nat.mul_le_mul_right _ hb.1
  · rw [show n.log2 + k + 1 = n.log2 + 1 + k by omega, pow_split]
    exact Nat.mul_lt_mul_of_pos_right hb.2 hp
theorem rung_scale (n : Nat) (p : Int) (k : Nat) : rung f (n * 2 ^ k) (p - k) = rung f n p := by
  unfold rung
  by_cases h : n = 0
  · simp [h]
  · have hp := Nat.two_pow_pos k
    have h' : n * 2 ^ k ≠ 0 := by have := Nat.mul_pos (Nat.pos_of_ne_zero h) hp; omega
    rw [if_neg h, if_neg h']
    have hl : lastP f (n * 2 ^ k) (p - k) = lastP f n p := by unfold lastP; rw [log2_scale h]; push_cast; congr 1; omega
    rw [hl]
    congr 1
    congr 1
    by_cases hc : lastP f n p ≤ p
    · have e1 : (lastP f n p - p).toNat = 0 := by omega
      rw [e1, rnd_zero]
      by_cases hd : lastP f n p ≤ p - k
      · have e2 : (lastP f n p - (p - k)).toNat = 0 := by omega
        rw [e2, rnd_zero, Nat.mul_assoc, ← pow_split]
        congr 2
        omega
      · have e2 : (p - k - lastP f n p).toNat = 0 := by omega
        rw [e2, Nat.pow_zero, Nat.mul_one]
        have e3 : n * 2 ^ k = n * 2 ^ (p - lastP f n p).toNat * 2 ^ (lastP f n p - (p - k)).toNat := by
          rw [Nat.mul_assoc, ← pow_split]; congr 2; omega
        rw [e3]
        have := rnd_scale (n * 2 ^ (p - lastP f n p).toNat) 0 (lastP f n p - (p - k)).toNat
        rw [Nat.add_zero] at this
        rw [this, rnd_zero]
    · have e1 : (p - lastP f n p).toNat = 0 := by omega
      have e2 : (p - k - lastP f n p).toNat = 0 := by omega
      have e3 : (lastP f n p - (p - k)).toNat = k + (lastP f n p - p).toNat := by omega
      rw [e1, e2, e3, Nat.pow_zero, Nat.mul_one, Nat.mul_one, rnd_scale]

/-! a number cut short -/
/-- n without its last j bits; that one of them is 1 is told by the last one left -/
def jam (n j : Nat) : Nat := if n % 2 ^ j = 0 then n / 2 ^ j else 2 * (n / 2 ^ j / 2) + 1
theorem jam_zero (n : Nat) : jam n 0 = n := by unfold jam; simp [Nat.mod_one]
theorem jam_div (n j : Nat) : jam n j / 2 = n / 2 ^ j / 2 := by
  unfold jam
  split
  · rfl
  · omega
theorem rnd_jam (n j e : Nat) (he : 2 ≤ e) : rnd (jam n j) e = rnd n (j + e) := by
  obtain ⟨e, rfl⟩ : ∃ e', e = e' + 2 := ⟨e - 2, by omega⟩
  have hj := Nat.two_pow_pos j
  have hE := Nat.two_pow_pos e
  have p2 : 2 ^ (e + 2) = 4 * 2 ^ e := by rw [Nat.pow_succ, Nat.pow_succ]; omega
  unfold rnd
  rw [mod_pow_add n j (e + 2), div_pow_add n j (e + 2), pow_split j (e + 2)]
  unfold jam
  have hr := Nat.mod_lt n hj
  split
  · rename_i h0
    rw [h0, Nat.add_zero]
    have h1 : (2 ^ j * 2 ^ (e + 2) < 2 * (n / 2 ^ j % 2 ^ (e + 2) * 2 ^ j)) ↔ 2 ^ (e + 2) < 2 * (n / 2 ^ j % 2 ^ (e + 2)) := by
      rw [Nat.mul_comm (2 ^ j), ← Nat.mul_assoc]
      exact Nat.mul_lt_mul_right hj
    have h2 : (2 ^ j * 2 ^ (e + 2) = 2 * (n / 2 ^ j % 2 ^ (e + 2) * 2 ^ j)) ↔ 2 ^ (e + 2) = 2 * (n / 2 ^ j % 2 ^ (e + 2)) := by
      rw [Nat.mul_comm (2 ^ j), ← Nat.mul_assoc]
      exact Nat.mul_left_inj (Nat.pos_iff_ne_zero.1 hj)
    simp only [Nat.add_zero, h1, h2]
  · rename_i h0
    generalize hq : n / 2 ^ j = q
    generalize hrr : n % 2 ^ j = r at *
    have hdiv : (2 * (q / 2) + 1) / 2 ^ (e + 2) = q / 2 ^ (e + 2) := by
      have h1 : ∀ x : Nat, x / 2 ^ (e + 2) = x / 2 / 2 ^ (e + 1) := fun x => by
        rw [Nat.div_div_eq_div_mul, Nat.pow_succ, Nat.mul_comm]
      rw [h1, h1 q]
      congr 1
      omega
    have hmod : (2 * (q / 2) + 1) % 2 ^ (e + 2) = 2 * (q % 2 ^ (e + 2) / 2) + 1 := by
      have e1 : 2 ^ (e + 2) = 2 * 2 ^ (e + 1) := by rw [Nat.pow_succ]; omega
      have hx : (2 * (q / 2) + 1) / 2 = q / 2 := by omega
      rw [e1, Nat.mod_mul, Nat.mod_mul, hx]
      omega
    rw [hdiv, hmod]
    have hQ : q % 2 ^ (e + 2) < 2 ^ (e + 2) := Nat.mod_lt _ (Nat.two_pow_pos _)
    generalize q % 2 ^ (e + 2) = Q at *
    rw [p2] at hQ ⊢
    have c1 : (4 * 2 ^ e < 2 * (2 * (Q / 2) + 1) ∨ 4 * 2 ^ e = 2 * (2 * (Q / 2) + 1) ∧ q / (4 * 2 ^ e) % 2 = 1) ↔ 2 * 2 ^ e ≤ Q := by omega
    have c2 : (2 ^ j * (4 * 2 ^ e) < 2 * (Q * 2 ^ j + r) ∨ 2 ^ j * (4 * 2 ^ e) = 2 * (Q * 2 ^ j + r) ∧ q / (4 * 2 ^ e) % 2 = 1) ↔ 2 * 2 ^ e ≤ Q := by
      have hm : ∀ x y : Nat, x ≤ y → x * 2 ^ j ≤ y * 2 ^ j := fun x y h => Nat.mul_le_mul_right _ h
      have e3 : 2 ^ j * (4 * 2 ^ e) = 2 * ((2 * 2 ^ e) * 2 ^ j) := by
        rw [Nat.mul_comm (2 ^ j), show 4 * 2 ^ e = 2 * (2 * 2 ^ e) by omega, Nat.mul_assoc]
      rw [e3]
      constructor
      · intro h
        by_cases hq : 2 * 2 ^ e ≤ Q
        · exact hq
        · have := hm (Q + 1) (2 * 2 ^ e) (by omega)
          rw [Nat.add_mul, Nat.one_mul] at this
          omega
      · intro h
        have := hm _ _ h
        left
        omega
    simp only [c1, c2]
theorem jam_log2 {n j : Nat} (h : 2 ≤ n / 2 ^ j) : (jam n j).log2 = (n / 2 ^ j).log2 := by
  generalize hq : n / 2 ^ j = q at *
  have hq0 : q ≠ 0 := by omega
  have hb := log2_bounds hq0
  have hl : 1 ≤ q.log2 := by
    rcases Nat.eq_zero_or_pos q.log2 with h0 | h0
    · rw [h0] at hb; simp at hb; omega
    · exact h0
  obtain ⟨l, hl'⟩ : ∃ l, q.log2 = l + 1 := ⟨q.log2 - 1, by omega⟩
  rw [hl'] at hb ⊢
  rw [Nat.pow_succ, Nat.pow_succ] at hb
  unfold jam
  rw [hq]
  split
  · exact hl'
  · refine (Nat.log2_eq_iff (by omega)).2 ⟨?_, ?_⟩
    · rw [Nat.pow_succ]; omega
    · rw [Nat.pow_succ, Nat.pow_succ]; omega
theorem div_log2 {n j : Nat} (h : n / 2 ^ j ≠ 0) : n.log2 = (n / 2 ^ j).log2 + j := by
  have hb := log2_bounds h
  have hp := Nat.two_pow_pos j
  have hn : n ≠ 0 := by intro e; rw [e] at h; simp at h
  refine (Nat.log2_eq_iff hn).2 ⟨?_, ?_⟩
  · rw [pow_split]
    exact (Nat.le_div_iff_mul_le hp).1 hb.1
  · rw [show (n / 2 ^ j).log2 + j + 1 = (n / 2 ^ j).log2 + 1 + j by omega, pow_split]
    exact (Nat.div_lt_iff_lt_mul hp).1 hb.2
theorem jam_ne {n j : Nat} (h : n ≠ 0) : jam n j ≠ 0 := by
  unfold jam
  split
  · rename_i h0
    intro e
    have := Nat.div_add_mod n (2 ^ j)
    rw [e, h0] at this
    simp at this
    omega
  · omega
/-- THE STICKY LAW: a number that is cut short to two bits and more beyond what is kept, what is lost told, rounds alike. -/
theorem rung_jam (n j : Nat) (p : Int) (h : 2 ^ (f.fractionBits + 2) ≤ n / 2 ^ j) : rung f (jam n j) (p + j) = rung f n p := by
  have hp2 : 4 ≤ 2 ^ (f.fractionBits + 2) := by
    have := Nat.two_pow_pos f.fractionBits
    rw [Nat.pow_succ, Nat.pow_succ]; omega
  have hq0 : n / 2 ^ j ≠ 0 := by omega
  have hn : n ≠ 0 := by intro e; rw [e] at hq0; simp at hq0
  have hl : f.fractionBits + 2 ≤ (n / 2 ^ j).log2 := (Nat.le_log2 hq0).2 h
  unfold rung
  rw [if_neg hn, if_neg (jam_ne hn)]
  have e1 : lastP f (jam n j) (p + j) = lastP f n p := by
    unfold lastP
    rw [jam_log2 (by omega), div_log2 hq0]
    push_cast
    congr 1
    omega
  rw [e1]
  have hlast : p + j + 2 ≤ lastP f n p := by
    have := Int.le_max_left (p + n.log2 - f.fractionBits) f.leastPlace
    unfold lastP
    rw [div_log2 hq0] at this ⊢
    push_cast at this ⊢
    omega
  have e2 : (p + j - lastP f n p).toNat = 0 := by omega
  have e3 : (p - lastP f n p).toNat = 0 := by omega
  have e4 : (lastP f n p - p).toNat = j + (lastP f n p - (p + j)).toNat := by omega
  rw [e2, e3, e4, Nat.pow_zero, Nat.mul_one, Nat.mul_one, rnd_jam _ _ _ (by omega)]


/-! what a word stands for -/
/-- a rung's size, in units of the least place -/
def units (r : Nat) : Nat := if r < f.binade then r else (f.binade + r % f.binade) * 2 ^ (r / f.binade - 1)
def magOf (r : Nat) : Nat := if r < f.binade then r else f.binade + r % f.binade
def placeOf (r : Nat) : Int := f.leastPlace + (if r < f.binade then 0 else (r / f.binade - 1 : Nat) : Nat)
def negOf (w : Nat) : Bool := w / f.signWeight % 2 == 1
def rungOf (w : Nat) : Nat := w % f.signWeight
theorem binade_pos : 0 < f.binade := Nat.two_pow_pos _
theorem inf_ge (he : 2 ≤ f.exponentBits) : f.binade ≤ f.infRung := by
  have : 2 ^ 2 ≤ 2 ^ f.exponentBits := Nat.pow_le_pow_right (by decide) he
  unfold Format.infRung
  exact Nat.le_mul_of_pos_left _ (by omega)
theorem read_number (_he : 2 ≤ f.exponentBits) {w : Nat} (h : rungOf f w < f.infRung) : f.read w = .number (negOf f w) (magOf f (rungOf f w)) (placeOf f (rungOf f w)) := by
  unfold Format.read magOf placeOf negOf rungOf at *
  simp only
  split
  · simp
  · first | rfl | rw [if_pos h]
theorem read_inf (he : 2 ≤ f.exponentBits) {w : Nat} (h : rungOf f w = f.infRung) : f.read w = .infinity (negOf f w) := by
  have := inf_ge f he
  unfold Format.read negOf rungOf at *
  simp only
  rw [if_neg (by omega), if_neg (by omega), if_pos h]
theorem read_nan (he : 2 ≤ f.exponentBits) {w : Nat} (h : f.infRung < rungOf f w) : f.read w = .nan (negOf f w) (rungOf f w - f.infRung) := by
  have := inf_ge f he
  unfold Format.read negOf rungOf at *
  simp only
  rw [if_neg (by omega), if_neg (by omega), if_neg (by omega)]
theorem units_eq (r : Nat) : units f r = magOf f r * 2 ^ (placeOf f r - f.leastPlace).toNat := by
  unfold units magOf placeOf
  split
  · simp
  · congr 2
    omega
theorem place_ge (r : Nat) : f.leastPlace ≤ placeOf f r := by unfold placeOf; omega
theorem units_succ (r : Nat) : units f r < units f (r + 1) := by
  have hB := binade_pos f
  unfold units
  generalize f.binade = B at *
  by_cases h1 : r + 1 < B
  · rw [if_pos h1, if_pos (by omega)]; omega
  · rw [if_neg h1]
    by_cases h2 : r < B
    · have : r + 1 = B := by omega
      rw [if_pos h2, this, Nat.mod_self, Nat.div_self hB]
      simp
      omega
    · rw [if_neg h2]
      have hd := Nat.div_add_mod r B
      have hm := Nat.mod_lt r hB
      have hq : 1 ≤ r / B := (Nat.one_le_div_iff hB).2 (by omega)
      generalize r / B = q at *
      generalize r % B = t at *
      subst hd
      obtain ⟨q, rfl⟩ : ∃ q', q = q' + 1 := ⟨q - 1, by omega⟩
      have hp := Nat.two_pow_pos q
      by_cases h3 : t + 1 < B
      · have e1 : (B * (q + 1) + t + 1) % B = t + 1 := by
          rw [Nat.add_assoc, Nat.mul_add_mod, Nat.mod_eq_of_lt h3]
        have e2 : (B * (q + 1) + t + 1) / B = q + 1 := by
          rw [Nat.add_assoc, Nat.mul_add_div hB, Nat.div_eq_of_lt h3, Nat.add_zero]
        rw [e1, e2]
        exact Nat.mul_lt_mul_of_pos_right (by omega) hp
      · have ht : t + 1 = B := by omega
        have e0 : B * (q + 1) + t + 1 = B * (q + 2) := by rw [Nat.mul_add, Nat.mul_add]; omega
        rw [e0, Nat.mul_mod_right, Nat.mul_div_cancel_left _ hB]
        have e3 : q + 2 - 1 = q + 1 := rfl
        have e4 : q + 1 - 1 = q := rfl
        rw [e3, e4, Nat.pow_succ, Nat.add_zero, Nat.mul_comm (2 ^ q), ← Nat.mul_assoc]
        exact Nat.mul_lt_mul_of_pos_right (by omega) hp
theorem units_lt {r s : Nat} (h : r < s) : units f r < units f s := by
  induction s with
  | zero => omega
  | succ s ih =>
    rcases Nat.lt_succ_iff_lt_or_eq.1 h with h' | rfl
    · exact Nat.lt_trans (ih h') (units_succ f s)
    · exact units_succ f r
theorem units_lt_iff {r s : Nat} : units f r < units f s ↔ r < s := by
  constructor
  · intro h
    rcases Nat.lt_or_ge r s with h' | h'
    · exact h'
    · rcases Nat.lt_or_eq_of_le h' with h2 | h2
      · have := units_lt f h2; omega
      · rw [h2] at h; omega
  · exact units_lt f
theorem units_inj {r s : Nat} (h : units f r = units f s) : r = s := by
  rcases Nat.lt_trichotomy r s with h' | h' | h'
  · have := units_lt f h'; omega
  · exact h'
  · have := units_lt f h'; omega
theorem units_zero : units f 0 = 0 := by unfold units; rw [if_pos (binade_pos f)]
/-- a number that the format has is met exactly -/
theorem units_rung {n : Nat} {p : Int} (hn : n < 2 ^ (f.fractionBits + 1)) (hp : f.leastPlace ≤ p) (ho : rung f n p < f.infRung) : units f (rung f n p) = n * 2 ^ (p - f.leastPlace).toNat := by
  unfold rung at ho ⊢
  by_cases h0 : n = 0
  · rw [if_pos h0, h0, units_zero, Nat.zero_mul]
  · rw [if_neg h0] at ho ⊢
    have hl : n.log2 < f.fractionBits + 1 := (Nat.log2_lt h0).2 hn
    have hb := log2_bounds h0
    have hlast : lastP f n p ≤ p := by unfold lastP; omega
    have hge : f.leastPlace ≤ lastP f n p := Int.le_max_right ..
    have e1 : (lastP f n p - p).toNat = 0 := by omega
    rw [e1, rnd_zero] at ho ⊢
    rw [Nat.min_eq_left (by omega)]
    have hB : f.binade = 2 ^ f.fractionBits := rfl
    have hBp := binade_pos f
    have hp2 := Nat.two_pow_pos (p - lastP f n p).toNat
    have hk : n * 2 ^ (p - lastP f n p).toNat < 2 * f.binade := by
      have h1 : n * 2 ^ (p - lastP f n p).toNat < 2 ^ (n.log2 + 1) * 2 ^ (p - lastP f n p).toNat := Nat.mul_lt_mul_of_pos_right hb.2 hp2
      rw [← pow_split] at h1
      have h2 : n.log2 + 1 + (p - lastP f n p).toNat ≤ f.fractionBits + 1 := by
        have : p + n.log2 - f.fractionBits ≤ lastP f n p := Int.le_max_left ..
        omega
      have h3 : 2 ^ (n.log2 + 1 + (p - lastP f n p).toNat) ≤ 2 ^ (f.fractionBits + 1) := Nat.pow_le_pow_right (by decide) h2
      rw [Nat.pow_succ 2 f.fractionBits] at h3
      omega
    have e2 : n * 2 ^ (p - f.leastPlace).toNat = n * 2 ^ (p - lastP f n p).toNat * 2 ^ (lastP f n p - f.leastPlace).toNat := by
      rw [Nat.mul_assoc, ← pow_split]; congr 2; omega
    rw [e2]
    by_cases hc : lastP f n p = f.leastPlace
    · have e3 : (lastP f n p - f.leastPlace).toNat = 0 := by omega
      rw [e3, Nat.zero_mul, Nat.zero_add, Nat.pow_zero, Nat.mul_one]
      generalize n * 2 ^ (p - lastP f n p).toNat = K at *
      unfold units
      split
      · rfl
      · have e4 : K % f.binade = K - f.binade := by rw [Nat.mod_eq_sub_mod (by omega), Nat.mod_eq_of_lt (by omega)]
        have e5 : K / f.binade = 1 := Nat.div_eq_of_lt_le (by omega) (by omega)
        rw [e4, e5]
        simp
        omega
    · have hlow : f.binade ≤ n * 2 ^ (p - lastP f n p).toNat := by
        have h1 : 2 ^ n.log2 * 2 ^ (p - lastP f n p).toNat ≤ n * 2 ^ (p - lastP f n p).toNat := Nat.mul_le_mul_right _ hb.1
        rw [← pow_split] at h1
        have h2 : n.log2 + (p - lastP f n p).toNat = f.fractionBits := by
          have : lastP f n p = p + n.log2 - f.fractionBits := by
            unfold lastP at hc ⊢
            omega
          omega
        rw [h2] at h1
        exact h1
      generalize hK : n * 2 ^ (p - lastP f n p).toNat = K at *
      generalize hL : (lastP f n p - f.leastPlace).toNat = L at *
      have e6 : L * f.binade + K = f.binade * (L + 1) + (K - f.binade) := by
        rw [Nat.mul_add, Nat.mul_comm f.binade L]; omega
      rw [e6]
      unfold units
      have hge2 : f.binade ≤ f.binade * (L + 1) := Nat.le_mul_of_pos_right _ (by omega)
      rw [if_neg (by omega), Nat.mul_add_mod, Nat.mod_eq_of_lt (by omega), Nat.mul_add_div hBp, Nat.div_eq_of_lt (by omega)]
      rw [show f.binade + (K - f.binade) = K by omega, show L + 1 + 0 - 1 = L by omega]

/-! order -/
/-- a word's size with its sign, in units of the least place -/
def sgU (w : Nat) : Int := if negOf f w then -(units f (rungOf f w) : Int) else (units f (rungOf f w) : Int)
theorem compare_scale (a b : Int) (k : Nat) : compare (a * 2 ^ k) (b * 2 ^ k) = compare a b := by
  have hp : (0 : Int) < 2 ^ k := Int.pow_pos (by decide)
  have h1 : a * 2 ^ k < b * 2 ^ k ↔ a < b := ⟨fun h => Int.lt_of_mul_lt_mul_right h (Int.le_of_lt hp), fun h => Int.mul_lt_mul_of_pos_right h hp⟩
  have h2 : b * 2 ^ k < a * 2 ^ k ↔ b < a := ⟨fun h => Int.lt_of_mul_lt_mul_right h (Int.le_of_lt hp), fun h => Int.mul_lt_mul_of_pos_right h hp⟩
  rcases Int.lt_trichotomy a b with h | h | h
  · rw [Int.compare_eq_lt.2 h, Int.compare_eq_lt.2 (h1.2 h)]
  · subst h; rw [Int.compare_eq_eq.2 rfl, Int.compare_eq_eq.2 rfl]
  · rw [Int.compare_eq_gt.2 h, Int.compare_eq_gt.2 (h2.2 h)]
theorem signed_eq (s : Bool) (m u : Nat) : Ieee.signed s m u = (if s then -((m : Int) * 2 ^ u) else (m : Int) * 2 ^ u) := by
  unfold Ieee.signed
  rw [Nat.shiftLeft_eq]
  push_cast
  rfl
/-- two numbers stand as their sizes, taken at any place below both -/
theorem order_at (s t : Bool) (m n : Nat) (i j L : Int) (hi : L ≤ i) (hj : L ≤ j) :
    (Datum.number s m i).order (.number t n j) = some (compare (Ieee.signed s m (i - L).toNat) (Ieee.signed t n (j - L).toNat)) := by
  have e : ∀ (s : Bool) (m : Nat) (k : Int), min i j ≤ k → Ieee.signed s m (k - L).toNat = Ieee.signed s m (k - min i j).toNat * 2 ^ (min i j - L).toNat := by
    intro s m k hk
    rw [signed_eq, signed_eq]
    have : (2 : Int) ^ (k - L).toNat = 2 ^ (k - min i j).toNat * 2 ^ (min i j - L).toNat := by
      rw [← Int.pow_add]; congr 1; omega
    rw [this]
    cases s <;> simp [Int.mul_assoc, Int.neg_mul]
  simp only [Datum.order]
  rw [e s m i (by omega), e t n j (by omega), compare_scale]
theorem sgU_eq (w : Nat) : sgU f w = Ieee.signed (negOf f w) (magOf f (rungOf f w)) (placeOf f (rungOf f w) - f.leastPlace).toNat := by
  unfold sgU
  rw [signed_eq, units_eq]
  push_cast
  rfl
theorem order_finite (he : 2 ≤ f.exponentBits) {a b : Nat} (ha : rungOf f a < f.infRung) (hb : rungOf f b < f.infRung) : f.order a b = some (compare (sgU f a) (sgU f b)) := by
  unfold Format.order
  rw [read_number f he ha, read_number f he hb, order_at _ _ _ _ _ _ f.leastPlace (place_ge f _) (place_ge f _), sgU_eq, sgU_eq]
theorem order_nan (he : 2 ≤ f.exponentBits) {a b : Nat} (h : f.infRung < rungOf f a ∨ f.infRung < rungOf f b) : f.order a b = none := by
  unfold Format.order
  rcases h with h | h
  · rw [read_nan f he h]; rfl
  · rw [read_nan f he h]; cases f.read a <;> rfl
/-- no NaN: they stand as their sizes with their signs -/
theorem order_eq (he : 2 ≤ f.exponentBits) {a b : Nat} (ha : rungOf f a ≤ f.infRung) (hb : rungOf f b ≤ f.infRung) : f.order a b = some (compare (sgU f a) (sgU f b)) := by
  have hpos : ∀ w, rungOf f w = f.infRung → 0 < units f (rungOf f w) := fun w h => by
    have := units_lt f (show 0 < rungOf f w by have := inf_ge f he; have := binade_pos f; omega)
    omega
  have hlt : ∀ v w, rungOf f v < f.infRung → rungOf f w = f.infRung → units f (rungOf f v) < units f (rungOf f w) := fun v w h1 h2 => units_lt f (by omega)
  rcases Nat.lt_or_eq_of_le ha with ha' | ha' <;> rcases Nat.lt_or_eq_of_le hb with hb' | hb'
  · exact order_finite f he ha' hb'
  · have h1 := hlt a b ha' hb'
    unfold Format.order
    rw [read_number f he ha', read_inf f he hb']
    simp only [Datum.order]
    unfold sgU
    have h2 := hpos b hb'
    cases negOf f b
    · rw [Int.compare_eq_lt.2]; rfl
      cases negOf f a <;> simp <;> omega
    · rw [Int.compare_eq_gt.2]; rfl
      cases negOf f a <;> simp <;> omega
  · have h1 := hlt b a hb' ha'
    unfold Format.order
    rw [read_number f he hb', read_inf f he ha']
    simp only [Datum.order]
    unfold sgU
    have h2 := hpos a ha'
    cases negOf f a
    · rw [Int.compare_eq_gt.2]; rfl
      cases negOf f b <;> simp <;> omega
    · rw [Int.compare_eq_lt.2]; rfl
      cases negOf f b <;> simp <;> omega
  · unfold Format.order
    rw [read_inf f he ha', read_inf f he hb']
    simp only [Datum.order]
    unfold sgU
    have h2 := hpos a ha'
    rw [ha'] at h2
    rw [ha', hb']
    cases negOf f a <;> cases negOf f b <;> simp only [Bool.toNat_true, Bool.toNat_false]
    · rw [Int.compare_eq_eq.2 (by simp)]; rfl
    · rw [Int.compare_eq_gt.2 (by simp; omega)]; rfl
    · rw [Int.compare_eq_lt.2 (by simp; omega)]; rfl
    · rw [Int.compare_eq_eq.2 (by simp)]; rfl

end Fx
end Go.Proofs.YtfdggebddcoeeaaGreatDoor

/-
  A float of 32 bits as one of 64, and how two stand: the same.
-/
namespace Go.Proofs.YtfdggebddcoeeaaGreatDoor
namespace Fx
open Ieee

section
variable (f : Format)
theorem inf_lt_sign : f.infRung < f.signWeight := by
  unfold Format.infRung Format.binade Format.signWeight
  rw [pow_split f.exponentBits f.fractionBits]
  have h1 := Nat.two_pow_pos f.exponentBits
  exact Nat.mul_lt_mul_of_pos_right (by omega) (Nat.two_pow_pos _)
theorem word_rung {s : Bool} {r : Nat} (h : r < f.signWeight) : rungOf f (f.word s r) = r := by
  unfold rungOf Format.word
  cases s
  · simp [Nat.mod_eq_of_lt h]
  · simp [Nat.mod_eq_of_lt h]
theorem word_neg {s : Bool} {r : Nat} (h : r < f.signWeight) : negOf f (f.word s r) = s := by
  have hp : 0 < f.signWeight := Nat.two_pow_pos _
  unfold negOf Format.word
  cases s
  · simp [Nat.div_eq_of_lt h]
  · simp [Nat.add_div_left _ hp, Nat.div_eq_of_lt h]
theorem rung_le_inf (n : Nat) (p : Int) : rung f n p ≤ f.infRung := by
  unfold rung
  split
  · omega
  · exact Nat.min_le_right ..
end

/-- a datum of 32 bits and one of 64 that stand for the same -/
def Same (d e : Datum) : Prop := match d with
  | .number s m i => ∃ n j, e = .number s n j ∧ double.leastPlace ≤ i ∧ double.leastPlace ≤ j ∧ m * 2 ^ (i - double.leastPlace).toNat = n * 2 ^ (j - double.leastPlace).toNat
  | .infinity s => e = .infinity s
  | .nan .. => e.isNaN = true
theorem same_order {d d' e e' : Datum} (h : Same d d') (h' : Same e e') : d.order e = d'.order e' := by
  have sg : ∀ (s : Bool) {m n : Nat} {i j : Int}, m * 2 ^ (i - double.leastPlace).toNat = n * 2 ^ (j - double.leastPlace).toNat → Ieee.signed s m (i - double.leastPlace).toNat = Ieee.signed s n (j - double.leastPlace).toNat := by
    intro s m n i j hh
    unfold Ieee.signed
    rw [Nat.shiftLeft_eq, Nat.shiftLeft_eq, hh]
  cases d with
  | number s m i =>
    obtain ⟨n, j, rfl, h1, h2, h3⟩ := h
    cases e with
    | number t p k =>
      obtain ⟨q, l, rfl, g1, g2, g3⟩ := h'
      rw [order_at _ _ _ _ _ _ _ h1 g1, order_at _ _ _ _ _ _ _ h2 g2, sg s h3, sg t g3]
    | infinity t => cases h'; rfl
    | nan t p => cases e' <;> simp [Same, Datum.isNaN] at h'; rfl
  | infinity s =>
    cases h
    cases e with
    | number t p k => obtain ⟨q, l, rfl, _⟩ := h'; rfl
    | infinity t => cases h'; rfl
    | nan t p => cases e' <;> simp [Same, Datum.isNaN] at h'; rfl
  | nan s p =>
    cases d' <;> simp [Same, Datum.isNaN] at h
    rfl
/-- the place of a float of 32 bits, and its size -/
theorem single_bounds {a : Nat} (h : rungOf single a < single.infRung) : magOf single (rungOf single a) < 2 ^ 24 ∧ -149 ≤ placeOf single (rungOf single a) ∧ placeOf single (rungOf single a) ≤ 104 := by
  have hb : single.binade = 8388608 := by decide
  have hi : single.infRung = 2139095040 := by decide
  have hl : single.leastPlace = -149 := by decide
  rw [hi] at h
  unfold magOf placeOf
  rw [hb, hl]
  generalize rungOf single a = r at *
  split
  · omega
  · omega
theorem double_rung_small {n : Nat} {p : Int} (hn : n < 2 ^ 53) (hp : p ≤ 900) : rung double n p < double.infRung := by
  have hb : double.binade = 4503599627370496 := by decide
  have hi : double.infRung = 9218868437227405312 := by decide
  have hl : double.leastPlace = -1074 := by decide
  have hf : double.fractionBits = 52 := rfl
  unfold rung
  split
  · rw [hi]; omega
  · rename_i h0
    have hlog : n.log2 < 53 := (Nat.log2_lt h0).2 hn
    have hbd := log2_bounds h0
    refine Nat.lt_of_le_of_lt (Nat.min_le_left ..) ?_
    have hlast : lastP double n p = max (p + n.log2 - 52) (-1074) := by unfold lastP; rw [hf, hl]; rfl
    rw [hlast, hb, hi, hl]
    by_cases hc : max (p + (n.log2 : Int) - 52) (-1074) ≤ p
    · have e1 : (max (p + (n.log2 : Int) - 52) (-1074) - p).toNat = 0 := by omega
      rw [e1, rnd_zero]
      have h1 : n * 2 ^ (p - max (p + (n.log2 : Int) - 52) (-1074)).toNat < 2 ^ 53 := by
        have hle : n.log2 + 1 + (p - max (p + (n.log2 : Int) - 52) (-1074)).toNat ≤ 53 := by omega
        have h2 : n * 2 ^ (p - max (p + (n.log2 : Int) - 52) (-1074)).toNat < 2 ^ (n.log2 + 1) * 2 ^ (p - max (p + (n.log2 : Int) - 52) (-1074)).toNat := Nat.mul_lt_mul_of_pos_right hbd.2 (Nat.two_pow_pos _)
        rw [← pow_split] at h2
        exact Nat.lt_of_lt_of_le h2 (Nat.pow_le_pow_right (by decide) hle)
      have h3 : (max (p + (n.log2 : Int) - 52) (-1074) - -1074).toNat ≤ 1974 := by omega
      generalize n * 2 ^ (p - max (p + (n.log2 : Int) - 52) (-1074)).toNat = K at *
      generalize (max (p + (n.log2 : Int) - 52) (-1074) - -1074).toNat = L at *
      omega
    · have e1 : max (p + (n.log2 : Int) - 52) (-1074) = -1074 := by omega
      rw [e1]
      have e2 : (p - -1074 : Int).toNat = 0 := by omega
      have e3 : ((-1074 : Int) - -1074).toNat = 0 := by omega
      rw [e2, e3, Nat.pow_zero, Nat.mul_one, Nat.zero_mul, Nat.zero_add]
      have : rnd n (-1074 - p).toNat ≤ n + 1 := by
        unfold rnd
        have := Nat.div_le_self n (2 ^ (-1074 - p).toNat)
        split <;> omega
      omega
/-- what 'float64(x)' makes of a float of 32 bits that is no NaN -/
def widen (a : Nat) : Nat := if rungOf single a = single.infRung then double.word (negOf single a) double.infRung else double.word (negOf single a) (rung double (magOf single (rungOf single a)) (placeOf single (rungOf single a)))
theorem widen_same {a : Nat} (h : rungOf single a ≤ single.infRung) : Same (single.read a) (double.read (widen a)) := by
  have h32 : (2 : Nat) ≤ single.exponentBits := by decide
  have h64 : (2 : Nat) ≤ double.exponentBits := by decide
  unfold widen
  by_cases hi : rungOf single a = single.infRung
  · rw [if_pos hi, read_inf single h32 hi]
    have hr := word_rung double (s := negOf single a) (inf_lt_sign double)
    rw [read_inf double h64 hr, word_neg double (inf_lt_sign double)]
    rfl
  · rw [if_neg hi]
    have hlt : rungOf single a < single.infRung := by omega
    rw [read_number single h32 hlt]
    obtain ⟨b1, b2, b3⟩ := single_bounds hlt
    have hsmall := double_rung_small (n := magOf single (rungOf single a)) (p := placeOf single (rungOf single a)) (by omega) (by omega)
    have hs : rung double (magOf single (rungOf single a)) (placeOf single (rungOf single a)) < double.signWeight := Nat.lt_trans hsmall (inf_lt_sign double)
    have hr := word_rung double (s := negOf single a) hs
    rw [read_number double h64 (by rw [hr]; exact hsmall), word_neg double hs, hr]
    have hl : double.leastPlace = -1074 := by decide
    refine ⟨_, _, rfl, by rw [hl]; omega, place_ge double _, ?_⟩
    rw [← units_eq, units_rung double (by show _ < 2 ^ 53; omega) (by rw [hl]; omega) hsmall]

end Fx
end Go.Proofs.YtfdggebddcoeeaaGreatDoor

/-
  How two floats stand, by their rungs and signs.
-/
namespace Go.Proofs.YtfdggebddcoeeaaGreatDoor
namespace Fx
open Ieee
variable (f : Format)

def isNaN (a : Nat) : Bool := decide (f.infRung < rungOf f a)
/-- is a below b? (by rungs and signs) -/
def below (a b : Nat) : Bool := match negOf f a, negOf f b with
  | true, true => decide (rungOf f b < rungOf f a)
  | true, false => decide (¬ (rungOf f a = 0 ∧ rungOf f b = 0))
  | false, true => false
  | false, false => decide (rungOf f a < rungOf f b)
theorem units_pos {r : Nat} : 0 < units f r ↔ r ≠ 0 := by
  constructor
  · intro h e; rw [e, units_zero] at h; omega
  · intro h
    have := units_lt f (show 0 < r by omega)
    omega
theorem sgU_lt (a b : Nat) : sgU f a < sgU f b ↔ below f a b = true := by
  have h1 := @units_lt_iff f (rungOf f a) (rungOf f b)
  have h2 := @units_lt_iff f (rungOf f b) (rungOf f a)
  have pa := @units_pos f (rungOf f a)
  have pb := @units_pos f (rungOf f b)
  unfold sgU below
  cases negOf f a <;> cases negOf f b <;> simp <;> omega
theorem order_lt (he : 2 ≤ f.exponentBits) (a b : Nat) : (f.order a b = some .lt) ↔ (isNaN f a = false ∧ isNaN f b = false ∧ below f a b = true) := by
  unfold isNaN
  by_cases ha : f.infRung < rungOf f a
  · simp [ha, order_nan f he (.inl ha)]
  · by_cases hb : f.infRung < rungOf f b
    · simp [hb, order_nan f he (.inr hb)]
    · rw [order_eq f he (by omega) (by omega), ← sgU_lt]
      simp [ha, hb, Int.compare_eq_lt]
theorem order_gt (he : 2 ≤ f.exponentBits) (a b : Nat) : (f.order a b = some .gt) ↔ (isNaN f a = false ∧ isNaN f b = false ∧ below f b a = true) := by
  unfold isNaN
  by_cases ha : f.infRung < rungOf f a
  · simp [ha, order_nan f he (.inl ha)]
  · by_cases hb : f.infRung < rungOf f b
    · simp [hb, order_nan f he (.inr hb)]
    · rw [order_eq f he (by omega) (by omega), ← sgU_lt]
      simp [ha, hb, Int.compare_eq_gt]
theorem order_eq' (he : 2 ≤ f.exponentBits) (a b : Nat) : (f.order a b = some .eq) ↔ (isNaN f a = false ∧ isNaN f b = false ∧ below f a b = false ∧ below f b a = false) := by
  have h1 := order_lt f he a b
  have h2 := order_gt f he a b
  unfold isNaN at *
  by_cases ha : f.infRung < rungOf f a
  · simp [ha, order_nan f he (.inl ha)]
  · by_cases hb : f.infRung < rungOf f b
    · simp [hb, order_nan f he (.inr hb)]
    · have e := order_eq f he (show rungOf f a ≤ f.infRung by omega) (show rungOf f b ≤ f.infRung by omega)
      rw [e] at h1 h2 ⊢
      cases hc : compare (sgU f a) (sgU f b) <;> rw [hc] at h1 h2 <;> simp [ha, hb] at h1 h2 ⊢
      · simp [h1]
      · exact ⟨by simpa using h1, by simpa using h2⟩
      · simp [h2]
theorem order_none (he : 2 ≤ f.exponentBits) (a b : Nat) : f.order a b = none ↔ (isNaN f a = true ∨ isNaN f b = true) := by
  unfold isNaN
  by_cases ha : f.infRung < rungOf f a
  · simp [ha, order_nan f he (.inl ha)]
  · by_cases hb : f.infRung < rungOf f b
    · simp [hb, order_nan f he (.inr hb)]
    · rw [order_eq f he (by omega) (by omega)]
      simp [ha, hb]
/-- two floats of 32 bits, widened, stand as they stood -/
theorem order_widen {a b : Nat} (ha : rungOf single a ≤ single.infRung) (hb : rungOf single b ≤ single.infRung) : double.order (widen a) (widen b) = single.order a b := (same_order (widen_same ha) (widen_same hb)).symm

end Fx
end Go.Proofs.YtfdggebddcoeeaaGreatDoor

/-
  How two floats stand, by the program: an expression over rungs and signs; what it stands for.
-/
set_option maxRecDepth 100000
noncomputable section
namespace Go.Proofs.YtfdggebddcoeeaaGreatDoor
namespace Sx
open Go Go.RowKit
variable (E : Env)

/-- the format of so many bits -/
def fmtOf (n : Nat) : Ieee.Format := cond (Nat.beq n 32) Ieee.single Ieee.double
/-- the word of a number's lowest bits -/
def wordOf (n : Nat) (x : Int) : Nat := (x % 2 ^ n).toNat
theorem fmt_sign {n : Nat} (hn : n = 32 ∨ n = 64) : (fmtOf n).signWeight = 2 ^ (n - 1) := by rcases hn with rfl | rfl <;> decide
theorem fmt_exp {n : Nat} : 2 ≤ (fmtOf n).exponentBits := by unfold fmtOf; cases Nat.beq n 32 <;> decide
theorem word_rungOf {n : Nat} (hn : n = 32 ∨ n = 64) (x : Int) : ((Fx.rungOf (fmtOf n) (wordOf n x) : Nat) : Int) = x % 2 ^ (n - 1) := by
  unfold Fx.rungOf wordOf
  rw [fmt_sign hn]
  have h1 := emod_range x n
  have e : (((x % 2 ^ n).toNat % 2 ^ (n - 1) : Nat) : Int) = x % 2 ^ n % 2 ^ (n - 1) := by
    push_cast
    rw [Int.toNat_of_nonneg h1.1]
  rw [e, emod_emod_pow x (by omega)]
theorem word_negOf {n : Nat} (hn : n = 32 ∨ n = 64) (x : Int) : Fx.negOf (fmtOf n) (wordOf n x) = decide (ibit x (n - 1) = 1) := by
  unfold Fx.negOf wordOf
  rw [fmt_sign hn]
  have h1 := emod_range x n
  have e : (((x % 2 ^ n).toNat / 2 ^ (n - 1) % 2 : Nat) : Int) = ibit (x % 2 ^ n) (n - 1) := by
    unfold ibit
    push_cast
    rw [Int.toNat_of_nonneg h1.1]
  rw [ibit_mod x (by omega)] at e
  by_cases h : ibit x (n - 1) = 1
  · have : (x % 2 ^ n).toNat / 2 ^ (n - 1) % 2 = 1 := by rw [h] at e; exact_mod_cast e
    simp [this, h]
  · have : (x % 2 ^ n).toNat / 2 ^ (n - 1) % 2 ≠ 1 := fun h' => h (by rw [← e, h']; rfl)
    simp [this, h]

def infN (n : Nat) : Nat := (fmtOf n).infRung
def negE (n : Nat) (a : SE) : SE := mkNot (mkEq (mkAnd .u64 a (.lit (.ofNat (2 ^ (n - 1))))) (.lit 0))
def szE (n : Nat) (a : SE) : SE := mkMd a (n - 1)
def nanE (n : Nat) (a : SE) : SE := mkLt (.lit (.ofNat (infN n))) (szE n a)
def lessE (n : Nat) (a b : SE) : SE := mkIte (mkEq (mkOr .u64 (szE n a) (szE n b)) (.lit 0)) (.lit 0) (mkIte (mkNot (mkEqB (negE n a) (negE n b))) (negE n a) (mkIte (negE n a) (mkLt (szE n b) (szE n a)) (mkLt (szE n a) (szE n b))))
theorem pow_bit (k i : Nat) : ibit ((2 : Int) ^ k) i = if i = k then 1 else 0 := by
  have h : ((2 : Int) ^ k) = ((2 ^ k : Nat) : Int) := by push_cast; rfl
  rw [h, ibit_nat, Nat.testBit_two_pow]
  by_cases hk : k = i
  · simp [hk]
  · have : ¬ i = k := fun h => hk h.symm
    simp [hk, this]
theorem and_bit {x : Int} (hx : inR .u64 x) {k : Nat} (hk : k < 64) : bitsI .and .u64 x (2 ^ k) = 0 ↔ ibit x k = 0 := by
  have hb : ∀ i, i < 64 → ibit (bitsI .and .u64 x (2 ^ k)) i = ibit x i * (if i = k then 1 else 0) := fun i hi => by
    rw [ibit_and (k := .u64) rfl x _ hi, pow_bit]
  constructor
  · intro h
    have := hb k hk
    rw [h, ibit_zero'] at this
    simpa using this.symm
  · intro h
    refine eq_of_bits 64 (bitsI_range (k := .u64) rfl _ _) ⟨by decide, by decide⟩ fun i hi => ?_
    rw [hb i hi, ibit_zero']
    by_cases hik : i = k
    · rw [hik, h]; simp
    · simp [hik]
theorem negE_den {n : Nat} (hn : n = 32 ∨ n = 64) {a : SE} (ha : inR .u64 (a.den E)) : (negE n a).den E = if Fx.negOf (fmtOf n) (wordOf n (a.den E)) = true then 1 else 0 := by
  have hp : inR .u64 ((SE.lit (.ofNat (2 ^ (n - 1)))).den E) := by rcases hn with rfl | rfl <;> simp [SE.den, inR, IntKind.min, IntKind.max, IntKind.signed, IntKind.bits]
  have hl : (SE.lit (.ofNat (2 ^ (n - 1)))).den E = 2 ^ (n - 1) := by simp [SE.den]
  have h1 := and_bit ha (k := n - 1) (by omega)
  unfold negE
  rw [mkNot_den, mkEq_den, mkAnd_den E .u64 _ _ ha hp, hl, word_negOf hn]
  simp only [SE.den]
  rcases ibit_01 (a.den E) (n - 1) with h | h
  · simp [h1.2 h, h]
  · have : ¬ bitsI .and .u64 (a.den E) (2 ^ (n - 1)) = 0 := fun h' => by rw [h1.1 h'] at h; cases h
    simp [this, h]
theorem szE_den {n : Nat} (hn : n = 32 ∨ n = 64) (a : SE) : (szE n a).den E = (Fx.rungOf (fmtOf n) (wordOf n (a.den E)) : Nat) := by
  unfold szE
  rw [mkMd_den, word_rungOf hn]
theorem nanE_den {n : Nat} (hn : n = 32 ∨ n = 64) (a : SE) : (nanE n a).den E = if Fx.isNaN (fmtOf n) (wordOf n (a.den E)) = true then 1 else 0 := by
  unfold nanE Fx.isNaN
  rw [mkLt_den, szE_den E hn]
  simp only [SE.den, infN, Int.ofNat_eq_natCast]
  by_cases h : (fmtOf n).infRung < Fx.rungOf (fmtOf n) (wordOf n (a.den E))
  · have : (((fmtOf n).infRung : Nat) : Int) < ((Fx.rungOf (fmtOf n) (wordOf n (a.den E)) : Nat) : Int) := by exact_mod_cast h
    simp [h, this]
  · have : ¬ (((fmtOf n).infRung : Nat) : Int) < ((Fx.rungOf (fmtOf n) (wordOf n (a.den E)) : Nat) : Int) := by exact_mod_cast h
    simp [h, this]
theorem rung_u64 {n : Nat} (hn : n = 32 ∨ n = 64) (a : SE) : inR .u64 ((szE n a).den E) := by
  unfold szE
  rw [mkMd_den]
  exact u64_of_mod (by omega)
theorem or_zero_iff' {x y : Int} (hx : 0 ≤ x ∧ x < 2 ^ 64) (hy : 0 ≤ y ∧ y < 2 ^ 64) : bitsI .or .u64 x y = 0 ↔ x = 0 ∧ y = 0 := by
  constructor
  · intro h
    have hb : ∀ i, i < 64 → ibit x i = 0 ∧ ibit y i = 0 := fun i hi => by
      have h1 := ibit_or (k := .u64) rfl x y hi
      rw [h, ibit_zero'] at h1
      rcases ibit_01 x i with a | a <;> rcases ibit_01 y i with b | b <;> rw [a, b] at h1 <;> simp at h1
      exact ⟨a, b⟩
    exact ⟨eq_of_bits 64 hx ⟨by decide, by decide⟩ fun i hi => by rw [(hb i hi).1, ibit_zero'], eq_of_bits 64 hy ⟨by decide, by decide⟩ fun i hi => by rw [(hb i hi).2, ibit_zero']⟩
  · rintro ⟨rfl, rfl⟩
    rfl
theorem lessE_den {n : Nat} (hn : n = 32 ∨ n = 64) {a b : SE} (ha : inR .u64 (a.den E)) (hb : inR .u64 (b.den E)) : (lessE n a b).den E = if Fx.below (fmtOf n) (wordOf n (a.den E)) (wordOf n (b.den E)) = true then 1 else 0 := by
  have ra := rung_u64 E hn a
  have rb := rung_u64 E hn b
  have hz := or_zero_iff' (inR_unsigned (k := .u64) rfl ra) (inR_unsigned (k := .u64) rfl rb)
  unfold lessE Fx.below
  simp only [mkIte_den, mkEq_den, mkNot_den, mkEqB_den, mkLt_den]
  rw [mkOr_den E .u64 _ _ ra rb]
  simp only [negE_den E hn ha, negE_den E hn hb]
  rw [szE_den E hn, szE_den E hn] at hz ⊢
  generalize Fx.rungOf (fmtOf n) (wordOf n (a.den E)) = p at *
  generalize Fx.rungOf (fmtOf n) (wordOf n (b.den E)) = q at *
  simp only [SE.den]
  by_cases h0 : bitsI .or .u64 (p : Int) (q : Int) = 0
  · obtain ⟨h1, h2⟩ := hz.1 h0
    have h1' : p = 0 := by exact_mod_cast h1
    have h2' : q = 0 := by exact_mod_cast h2
    subst h1' h2'
    cases Fx.negOf (fmtOf n) (wordOf n (a.den E)) <;> cases Fx.negOf (fmtOf n) (wordOf n (b.den E)) <;> simp [show bitsI .or .u64 (0 : Int) 0 = 0 from rfl]
  · have h3 : ¬ (p = 0 ∧ q = 0) := fun h => h0 (hz.2 ⟨by exact_mod_cast h.1, by exact_mod_cast h.2⟩)
    cases Fx.negOf (fmtOf n) (wordOf n (a.den E)) <;> cases Fx.negOf (fmtOf n) (wordOf n (b.den E)) <;> simp [h0, h3]

/-- how two stand -/
def relF (o : Option Ordering) (op : Nat) : Bool := match op with
  | 1 => o == some .eq
  | 2 => o != some .eq
  | 3 => o == some .lt
  | 4 => o == some .gt
  | 5 => o == some .lt || o == some .eq
  | _ => o == some .gt || o == some .eq
def relE (n op : Nat) (a b : SE) : SE := mkIte (mkIte (nanE n a) (.lit 1) (nanE n b)) (.lit (cond (Nat.beq op 2) 1 0)) (match op with
  | 1 => mkIte (mkNot (lessE n a b)) (mkNot (lessE n b a)) (.lit 0)
  | 2 => mkIte (lessE n a b) (.lit 1) (lessE n b a)
  | 3 => lessE n a b
  | 4 => lessE n b a
  | 5 => mkNot (lessE n b a)
  | _ => mkNot (lessE n a b))
def FR (n op : Nat) (x y : Int) : Bool := relF ((fmtOf n).order (wordOf n x) (wordOf n y)) op
theorem relE_den {n op : Nat} (hn : n = 32 ∨ n = 64) (ho : 1 ≤ op ∧ op ≤ 6) {a b : SE} (ha : inR .u64 (a.den E)) (hb : inR .u64 (b.den E)) : (relE n op a b).den E = if FR n op (a.den E) (b.den E) = true then 1 else 0 := by
  have hlt := Fx.order_lt (fmtOf n) fmt_exp (wordOf n (a.den E)) (wordOf n (b.den E))
  have hgt := Fx.order_gt (fmtOf n) fmt_exp (wordOf n (a.den E)) (wordOf n (b.den E))
  have heq := Fx.order_eq' (fmtOf n) fmt_exp (wordOf n (a.den E)) (wordOf n (b.den E))
  have hno := Fx.order_none (fmtOf n) fmt_exp (wordOf n (a.den E)) (wordOf n (b.den E))
  unfold relE FR
  have hops : op = 1 ∨ op = 2 ∨ op = 3 ∨ op = 4 ∨ op = 5 ∨ op = 6 := by omega
  cases hna : Fx.isNaN (fmtOf n) (wordOf n (a.den E)) <;> cases hnb : Fx.isNaN (fmtOf n) (wordOf n (b.den E)) <;> rw [hna, hnb] at hlt hgt heq hno <;>
    cases hl : Fx.below (fmtOf n) (wordOf n (a.den E)) (wordOf n (b.den E)) <;> cases hg : Fx.below (fmtOf n) (wordOf n (b.den E)) (wordOf n (a.den E)) <;> rw [hl, hg] at heq <;> rw [hl] at hlt <;> rw [hg] at hgt <;>
    cases ho' : (fmtOf n).order (wordOf n (a.den E)) (wordOf n (b.den E)) <;> (try rename_i oo; cases oo) <;> rw [ho'] at hlt hgt heq hno <;> simp at hlt hgt heq hno <;>
    rcases hops with rfl | rfl | rfl | rfl | rfl | rfl <;> simp [mkIte_den, mkNot_den, nanE_den E hn, lessE_den E hn ha hb, lessE_den E hn hb ha, hna, hnb, hl, hg, relF, SE.den]
  all_goals rfl

end Sx
end Go.Proofs.YtfdggebddcoeeaaGreatDoor
end

set_option maxRecDepth 100000
namespace Go.Proofs.YtfdggebddcoeeaaGreatDoor
namespace Sx
open Go Go.RowKit
open Fx (widen isNaN rungOf negOf)
theorem run_extern {P : Program} {f : FuncId} {fn : Func} {e : Array Value → Sem Value} (hf : P.funcs[f]? = some fn) (hn : (fn.name == "runtime.NumGoroutine") = false) (hb : fn.body.isNone = true) (h1 : Extern.findNext fn = none) (h2 : Extern.find fn = some e)
    {args : Array Value} {w : World} {v : Value} (hr : (e args).run P w = .ok v w) : (callFunc f args).run P w = .ok (.value v) w := by
  have hpr : (program).run P w = .ok P w := rfl
  simp only [callFunc, Sem.run_bind, hpr, Result.andThen_ok, hf, hn, hb, h1, h2, Bool.false_eq_true, if_false, if_true, Sem.run_pure, run_mark, hr]
theorem ext226 : ∃ fn, Tryz.prog.funcs[226]? = some fn ∧ (fn.name == "runtime.NumGoroutine") = false ∧ fn.body.isNone = true ∧ Extern.findNext fn = none ∧ Extern.find fn = some Extern.MathFloatBits.float64frombits := ⟨_, Tryz.func226, by kernel_rfl, rfl, by kernel_rfl, by kernel_rfl⟩
@[go_sem] theorem call226 (x : Int) (w : World) : (callFunc 226 #[.int .u64 x]).run Tryz.prog w = .ok (.value (.float .f64 x.toNat)) w := by
  obtain ⟨fn, f1, f2, f3, f4, f5⟩ := ext226
  exact run_extern f1 f2 f3 f4 f5 rfl
theorem ext210 : ∃ fn, Tryz.prog.funcs[210]? = some fn ∧ (fn.name == "runtime.NumGoroutine") = false ∧ fn.body.isNone = true ∧ Extern.findNext fn = none ∧ Extern.find fn = some Extern.MathFloatBits.float32frombits := ⟨_, Tryz.func210, by kernel_rfl, rfl, by kernel_rfl, by kernel_rfl⟩
@[go_sem] theorem call210 (x : Int) (w : World) : (callFunc 210 #[.int .u32 x]).run Tryz.prog w = .ok (.value (.float .f32 x.toNat)) w := by
  obtain ⟨fn, f1, f2, f3, f4, f5⟩ := ext210
  exact run_extern f1 f2 f3 f4 f5 rfl
/-- a draw more -/
def Drew (w w' : World) : Prop := w' = w ∨ w' = { w with drawn := w.drawn + 1 }
theorem nan64 (t : Nat) : isNaN Ieee.double ((Question.nanConv .f64 0).cut t) = true := by
  have e : (Question.nanConv .f64 0).cut t = (t % 2) * 2 ^ 63 + 0x7ff0000000000000 + 1 + (t / 2) % (2 ^ 52 - 1) := rfl
  rw [e]
  unfold isNaN rungOf
  have hs : Ieee.double.signWeight = 2 ^ 63 := by decide
  have hi : Ieee.double.infRung = 0x7ff0000000000000 := by decide
  rw [hs, hi]
  have h1 := Nat.mod_lt (t / 2) (show 0 < 2 ^ 52 - 1 by decide)
  have h2 := Nat.mod_two_eq_zero_or_one t
  generalize t / 2 % (2 ^ 52 - 1) = u at *
  refine decide_eq_true ?_
  rcases h2 with h2 | h2 <;> rw [h2] <;> omega
theorem conv_wide (b : Nat) (w : World) : ∃ r w', (convert 147 143 (.float .f32 b)).run Tryz.prog w = .ok (.float .f64 r) w' ∧ Drew w w' ∧ (isNaN Ieee.single b = false → r = widen b) ∧ (isNaN Ieee.single b = true → isNaN Ieee.double r = true) := by
  have h32 : (2 : Nat) ≤ Ieee.single.exponentBits := by decide
  have hu1 := Tryz.underlying147
  have hu2 := Tryz.underlying143
  by_cases hn : Ieee.single.infRung < rungOf Ieee.single b
  · have hr := Fx.read_nan Ieee.single h32 hn
    refine ⟨(Question.nanConv .f64 b).cut (w.tape w.drawn (.nanConv .f64 b)), { w with drawn := w.drawn + 1 }, ?_, .inr rfl, fun h => by simp [isNaN, hn] at h, fun _ => nan64 _⟩
    simp [convert, run_underlying hu1, run_underlying hu2, Conv.floatToFloat, FloatKind.decode, FloatKind.format, hr]
    intro h
    exact absurd h (by simp [Question.forced])
  · have hnn : isNaN Ieee.single b = false := by simp [isNaN, hn]
    have hle : rungOf Ieee.single b ≤ Ieee.single.infRung := by omega
    have hlt64 := Fx.inf_lt_sign Ieee.double
    refine ⟨widen b, w, ?_, .inl rfl, fun _ => rfl, fun h => by rw [hnn] at h; cases h⟩
    by_cases hi : rungOf Ieee.single b = Ieee.single.infRung
    · have hr := Fx.read_inf Ieee.single h32 hi
      simp [convert, run_underlying hu1, run_underlying hu2, Conv.floatToFloat, FloatKind.decode, FloatKind.format, FloatKind.encode, hr, Ieee.Format.write, widen, hi]
    · have hlt : rungOf Ieee.single b < Ieee.single.infRung := by omega
      have hr := Fx.read_number Ieee.single h32 hlt
      obtain ⟨b1, b2, b3⟩ := Fx.single_bounds hlt
      have hsmall := Fx.double_rung_small (n := Fx.magOf Ieee.single (rungOf Ieee.single b)) (p := Fx.placeOf Ieee.single (rungOf Ieee.single b)) (by omega) (by omega)
      have hw : Ieee.double.nearest (negOf Ieee.single b) (Fx.magOf Ieee.single (rungOf Ieee.single b)) (Fx.placeOf Ieee.single (rungOf Ieee.single b)) = widen b := by
        rw [Fx.nearest_eq, widen, if_neg hi]
      have hfin : (Ieee.double.read (widen b)).isInfinity = false := by
        have hs := Fx.widen_same hle
        rw [hr] at hs
        obtain ⟨n, j, e, _⟩ := hs
        rw [e]
        rfl
      simp [convert, run_underlying hu1, run_underlying hu2, Conv.floatToFloat, FloatKind.decode, FloatKind.format, FloatKind.encode, hr, Ieee.Format.write, hw, hfin]
theorem value32 (x : Int) (w : World) : Calls Tryz.prog 170 #[.int .i64 32, .int .u64 x] w fun e w' => ∃ r, e = .returned (.float .f64 r) ∧ Drew w w' ∧ (isNaN Ieee.single (x % 4294967296).toNat = false → r = widen (x % 4294967296).toNat) ∧ (isNaN Ieee.single (x % 4294967296).toNat = true → isNaN Ieee.double r = true) := by
  obtain ⟨r, w', hrun, h1, h2, h3⟩ := conv_wide (x % 4294967296).toNat w
  go_enter Tryz.func170, Tryz.ntmps170
  go_wp2
  all_goals (go_ret; exact ⟨r, rfl, h1, h2, h3⟩)
theorem value64 (x : Int) (w : World) : Calls Tryz.prog 170 #[.int .i64 64, .int .u64 x] w fun e w' => e = .returned (.float .f64 x.toNat) ∧ w' = w := by
  go_enter Tryz.func170, Tryz.ntmps170
  go_wp2
  all_goals (go_ret; exact ⟨rfl, rfl⟩)
end Sx
end Go.Proofs.YtfdggebddcoeeaaGreatDoor

/-
  A law's frame: its arguments opened.
-/
set_option maxRecDepth 100000
noncomputable section
namespace Go.Proofs.YtfdggebddcoeeaaGreatDoor
namespace Sx
open Go Go.RowKit Go.ChangeShapes Go.WideShapes Go.ChangeAt Go.Deep Go.Joins

theorem own : ownKnob Tryz.prog.godebug = none := by kernel_rfl
theorem laidOut : laidOutB Tryz.prog = true := by kernel_rfl
theorem u24 : ∃ f0 f1 f2 f3, Tryz.prog.underlying 24 = some (.struct #[f0, f1, f2, f3]) ∧ f0.type = 3 ∧ f1.type = 22 ∧ f2.type = 22 ∧ f3.type = 4 ∧ oneCellFields Tryz.prog #[f0, f1, f2, f3] = true := ⟨_, _, _, _, Tryz.underlying24, rfl, rfl, rfl, rfl, by kernel_rfl⟩
theorem c24 : Tryz.prog.cellsOf 24 = 4 := by kernel_rfl
/-- an api.Value, opened -/
theorem open_val {H : Type} {enc : TypeId × Value → H} {w : World} {base : Nat} {spare : Nat → Bool} {held : Bool} {r : Reach} {b0 : Nat} {v : Value} {d : DataW H} {p : List MemPlace}
    (hv : Value.okWide Tryz.prog w r b0 24 v) (h : DataW.Trod enc Tryz.prog w base spare held 24 v d p) :
    ∃ (t l m : Int) (n : Bool), v = .agg #[.int .i64 t, .int .u64 l, .int .u64 m, .bool n] ∧ d = .agg [.lit (.int .i64 t), .lit (.int .u64 l), .lit (.int .u64 m), .lit (.bool n)] ∧ p = [] ∧
      inR .i64 t ∧ inR .u64 l ∧ inR .u64 m := by
  obtain ⟨f0, f1, f2, f3, hu, t0, t1, t2, t3, hone⟩ := u24
  obtain ⟨v0, v1, v2, v3, y0, y1, y2, y3, n, rfl, rfl, rfl, h0, h1, h2, h3⟩ := open_agg4 hu hone c24 hv h
  rw [t0] at h0
  rw [t1] at h1
  rw [t2] at h2
  rw [t3] at h3
  obtain ⟨a, e0, rfl, w0⟩ := DataW.trod_int Tryz.underlying3 h0
  obtain ⟨b, e1, rfl, w1⟩ := DataW.trod_int Tryz.underlying22 h1
  obtain ⟨c, e2, rfl, w2⟩ := DataW.trod_int Tryz.underlying22 h2
  obtain ⟨x, e3, rfl⟩ := DataW.trod_bool Tryz.underlying4 h3
  cases e0
  cases e1
  cases e2
  cases e3
  simp [Lit.wf] at w0 w1 w2
  exact ⟨a, b, c, x, rfl, rfl, rfl, w0, w1, w2⟩

end Sx
end Go.Proofs.YtfdggebddcoeeaaGreatDoor
end

/-
  A law of the lanes: its run by the evaluator at any arguments; the statement's own examples.
-/
set_option maxRecDepth 100000
noncomputable section
namespace Go.Proofs.YtfdggebddcoeeaaGreatDoor
namespace Sx
open Go Go.RowKit

/-- the table of spaces -/
def T0 : Nat → Tr SV := fun g => match g with
  | 0 => tabD Rows.laid_strings_asciiSpace
  | _ => .lf
def Gu (keys : List (SE × SE)) (spl : List (SE × SE × Nat)) : Gl := ⟨T0, keys, spl⟩
abbrev Gt (keys : List (SE × SE)) : Gl := Gu keys []
def TabOk (w : World) : Prop := ∀ (E : Env) (i : Nat) (v : SV), (T0 0).get i = some v → (∀ loc, w.cell? ⟨0, i, none⟩ = some (v.den E loc)) ∧ v.wf E 0 ∧ oneC v = true
theorem spaceName : Tryz.prog.globalNamed "strings.asciiSpace" = some 0 := by kernel_rfl
theorem spaceG : (Tryz.prog.globals[0]?).map (·.type) = some 114 := by kernel_rfl
theorem spaceC : Tryz.prog.cellsOf 5 = 1 := by kernel_rfl
theorem tab_of {W : World} {laid : List (String × DataW Unit)} (hL : laidMetH Tryz.prog laid W) (hp : (laid.all fun x => x.2.handleName?.isNone) = true) (hm : ("strings.asciiSpace", Rows.laid_strings_asciiSpace) ∈ laid) : TabOk W := by
  rw [MakeChecks.laidMetH_plain _ _ _ hp] at hL
  obtain ⟨ps, h1, _⟩ := hL
  exact fun E i v hv => laid_cells h1 hm spaceName spaceG Tryz.underlying114 spaceC (.inr ⟨_, Tryz.underlying5⟩) i v hv
theorem gok {E : Env} {keys : List (SE × SE)} {spl : List (SE × SE × Nat)} {W : World} (hT : TabOk W) (hk : ∀ p ∈ keys, p.1.den E = p.2.den E) (hs : ∀ s ∈ spl, s.1.den E ≠ 0 → ∃ c : Nat, c < s.2.2 ∧ s.2.1.den E = c) : GOk E (Gu keys spl) W := by
  refine ⟨⟨hk, hs⟩, fun g i v hv => ?_⟩
  cases g with
  | zero => exact hT E i v hv
  | succ g => cases hv
theorem gok_less {E : Env} {keys : List (SE × SE)} {spl : List (SE × SE × Nat)} {W : World} (h : GOk E (Gu keys spl) W) : GOk E (Gt []) W := ⟨⟨fun _ hp => (by cases hp), fun _ hp => (by cases hp)⟩, h.2⟩
def yes (r : R) : Bool := match r with
  | some (v, _, _) => match v with
    | .bool e => match e with
      | .lit n => intEq n 1
      | _ => false
    | _ => false
  | none => false
theorem yes_ok {r : R} (h : yes r = true) : ∃ hp k, r = some (.bool (.lit 1), hp, k) := by
  unfold yes at h
  repeat' (split at h)
  all_goals first
    | (cases h; done)
    | (rw [(intEq_iff _ _).1 h]; exact ⟨_, _, rfl⟩)
theorem awake_run : yes (call Tryz.prog (Gt []) sums0 60 20 [] .lf 0) = true := by kernel_rfl
def smAwake : Sm := fun a hp nx => match a with
  | [] => some (.bool (.lit 1), hp, nx)
  | _ => none
theorem smAwake_ok {E : Env} {keys : List (SE × SE)} {spl : List (SE × SE × Nat)} : SmOk E Tryz.prog (Gu keys spl) 20 smAwake := by
  intro args hp nx v hp' nx' hv loc w hr hg hw
  unfold smAwake at hv
  split at hv
  · cases hv
    obtain ⟨h1, k1, e⟩ := yes_ok awake_run
    refine cx_mono (eval_ok (E := E) okP mixed sums0_ok 60 20 [] .lf 0 _ h1 k1 e loc w (hrel_lf _ _ _) (gok_less hg) trivial) fun u w' hu => ?_
    obtain ⟨loc', e1, e2⟩ := hu
    exact ⟨loc, e1, step_of_below hr e2.bel trivial⟩
  · cases hv
def sumsA : Tr Sm := sums1.set 20 smAwake
theorem sumsA_ok {E : Env} {keys : List (SE × SE)} {spl : List (SE × SE × Nat)} : SumsOk E Tryz.prog (Gu keys spl) sumsA := by
  intro f s h
  unfold sumsA at h
  rcases Tr.get_set h with ⟨rfl, rfl⟩ | ⟨_, h⟩
  · exact smAwake_ok
  · exact sums1_ok f s h
/-- sums to which a summary is added -/
theorem sums_add {E : Env} {G : Gl} {sums : Tr Sm} (h : SumsOk E Tryz.prog G sums) {f : FuncId} {s : Sm} (hs : SmOk E Tryz.prog G f s) : SumsOk E Tryz.prog G (sums.set f s) := by
  intro g t hg
  rcases Tr.get_set hg with ⟨rfl, rfl⟩ | ⟨_, hg⟩
  · exact hs
  · exact h g t hg

/-! a law of which vectors are asked -/
/-- what a law's inputs are within -/
def Rng (x t1 l1 m1 t2 l2 m2 t3 l3 m3 y : Int) : Prop := inR .i64 x ∧ inR .i64 t1 ∧ inR .u64 l1 ∧ inR .u64 m1 ∧ inR .i64 t2 ∧ inR .u64 l2 ∧ inR .u64 m2 ∧ inR .i64 t3 ∧ inR .u64 l3 ∧ inR .u64 m3 ∧ inR .u64 y
def lawArgs : List SV := [.int .i64 (.var 0), .agg [.int .i64 (.var 1), .int .u64 (.var 2), .int .u64 (.var 3), .bool (.var 4)], .agg [.int .i64 (.var 5), .int .u64 (.var 6), .int .u64 (.var 7), .bool (.var 8)], .agg [.int .i64 (.var 9), .int .u64 (.var 10), .int .u64 (.var 11), .bool (.var 12)], .int .u64 (.var 13)]
def lawVa (x t1 l1 m1 t2 l2 m2 t3 l3 m3 y : Int) (n1 n2 n3 : Bool) : Nat → Int := fun i => match i with
  | 0 => x
  | 1 => t1
  | 2 => l1
  | 3 => m1
  | 4 => cond n1 1 0
  | 5 => t2
  | 6 => l2
  | 7 => m2
  | 8 => cond n2 1 0
  | 9 => t3
  | 10 => l3
  | 11 => m3
  | 12 => cond n3 1 0
  | _ => y
def valA (x t1 l1 m1 t2 l2 m2 t3 l3 m3 y : Int) (n1 n2 n3 : Bool) : Array Value := #[.int .i64 x, .agg #[.int .i64 t1, .int .u64 l1, .int .u64 m1, .bool n1], .agg #[.int .i64 t2, .int .u64 l2, .int .u64 m2, .bool n2], .agg #[.int .i64 t3, .int .u64 l3, .int .u64 m3, .bool n3], .int .u64 y]
theorem boolv (b : Bool) : decide ((cond b 1 0 : Int) ≠ 0) = b := by cases b <;> rfl
theorem law_den {x t1 l1 m1 t2 l2 m2 t3 l3 m3 y : Int} {n1 n2 n3 : Bool} {F1 : Nat → Int → Int} {F2 : Nat → Int → Int → Int} :
    (denL ⟨F1, F2, lawVa x t1 l1 m1 t2 l2 m2 t3 l3 m3 y n1 n2 n3⟩ loc0 lawArgs).toArray = valA x t1 l1 m1 t2 l2 m2 t3 l3 m3 y n1 n2 n3 := by
  show #[Value.int .i64 x, .agg #[.int .i64 t1, .int .u64 l1, .int .u64 m1, .bool (decide ((cond n1 1 0 : Int) ≠ 0))], .agg #[.int .i64 t2, .int .u64 l2, .int .u64 m2, .bool (decide ((cond n2 1 0 : Int) ≠ 0))], .agg #[.int .i64 t3, .int .u64 l3, .int .u64 m3, .bool (decide ((cond n3 1 0 : Int) ≠ 0))], .int .u64 y] = _
  rw [boolv, boolv, boolv]
  rfl
theorem law_core {f : FuncId} {fn : Func} (hf : Tryz.prog.funcs[f]? = some fn) (hb : fn.body.isSome = true) {keys : List (SE × SE)} {spl : List (SE × SE × Nat)} {sums : Tr Sm} {x t1 l1 m1 t2 l2 m2 t3 l3 m3 y : Int} {n1 n2 n3 : Bool} {E : Env} (hE : E.va = lawVa x t1 l1 m1 t2 l2 m2 t3 l3 m3 y n1 n2 n3)
    (hS : SumsOk E Tryz.prog (Gu keys spl) sums) (hy : yes (call Tryz.prog (Gu keys spl) sums 60 f lawArgs .lf 0) = true) {W : World} (hT : TabOk W) (hk : ∀ p ∈ keys, p.1.den E = p.2.den E) (hs : ∀ s ∈ spl, s.1.den E ≠ 0 → ∃ c : Nat, c < s.2.2 ∧ s.2.1.den E = c) (h : Rng x t1 l1 m1 t2 l2 m2 t3 l3 m3 y) :
    Calls Tryz.prog f (valA x t1 l1 m1 t2 l2 m2 t3 l3 m3 y n1 n2 n3) W (fun e W' => e = .returned (.bool true) ∧ Below W.heap.size W W') := by
  obtain ⟨F1, F2, va⟩ := E
  simp only at hE
  subst hE
  obtain ⟨h1, k1, e⟩ := yes_ok hy
  obtain ⟨a0, a1, a2, a3, a4, a5, a6, a7, a8, a9, a10⟩ := h
  have hw : wfL ⟨F1, F2, lawVa x t1 l1 m1 t2 l2 m2 t3 l3 m3 y n1 n2 n3⟩ 0 lawArgs := ⟨a0, ⟨a1, a2, a3, trivial, trivial⟩, ⟨a4, a5, a6, trivial, trivial⟩, ⟨a7, a8, a9, trivial, trivial⟩, a10, trivial⟩
  have hc := eval_ok okP mixed hS 60 f lawArgs .lf 0 _ h1 k1 e loc0 W (hrel_lf _ _ _) (gok hT hk hs) hw
  rw [law_den] at hc
  refine (calls_of_cx okP hf hb hc).mono fun ex W' hx => ?_
  cases ex <;> try exact absurd hx id
  obtain ⟨loc', e1, e2⟩ := hx
  exact ⟨by rw [e1]; rfl, e2.bel⟩
/-- the instruction's number in a list -/
def keyL (len j : Nat) : SE × SE := (.tmod (.md (.var 0) 10) (.lit (.ofNat len)), .lit (.ofNat j))
theorem keyL_holds {E : Env} {len : Nat} (h0 : 0 < len) : ∃ j, j < len ∧ (keyL len j).1.den E = (keyL len j).2.den E := by
  have h1 := emod_range (E.va 0) 10
  refine ⟨((E.va 0 % 2 ^ 10) % len).toNat, ?_, ?_⟩
  · have h2 := Int.emod_nonneg (E.va 0 % 2 ^ 10) (show (len : Int) ≠ 0 by omega)
    have h3 := Int.emod_lt_of_pos (E.va 0 % 2 ^ 10) (show (0 : Int) < len by omega)
    omega
  · have h2 := Int.emod_nonneg (E.va 0 % 2 ^ 10) (show (len : Int) ≠ 0 by omega)
    simp only [keyL, SE.den, Int.ofNat_eq_natCast]
    rw [Int.tmod_eq_emod_of_nonneg h1.1, Int.toNat_of_nonneg h2]
theorem law_runs {f : FuncId} {fn : Func} (hf : Tryz.prog.funcs[f]? = some fn) (hb : fn.body.isSome = true) {sums : Tr Sm} (hS : ∀ va keys spl, SumsOk (EE va) Tryz.prog (Gu keys spl) sums) {len : Nat} (h0 : 0 < len)
    (hall : ∀ j, j < len → yes (call Tryz.prog (Gt [keyL len j]) sums 60 f lawArgs .lf 0) = true) {W : World} (hT : TabOk W) {x t1 l1 m1 t2 l2 m2 t3 l3 m3 y : Int} {n1 n2 n3 : Bool} (h : Rng x t1 l1 m1 t2 l2 m2 t3 l3 m3 y) :
    Calls Tryz.prog f (valA x t1 l1 m1 t2 l2 m2 t3 l3 m3 y n1 n2 n3) W (fun e W' => e = .returned (.bool true) ∧ Below W.heap.size W W') := by
  obtain ⟨j, hj, hk⟩ := keyL_holds (E := EE (lawVa x t1 l1 m1 t2 l2 m2 t3 l3 m3 y n1 n2 n3)) h0
  exact law_core hf hb rfl (hS _ _ _) (hall j hj) hT (fun p hp => by rw [List.mem_singleton.1 hp]; exact hk) (fun s hs => by cases hs) h

/-- by further cases -/
def Case (sums : Tr Sm) (f len j : Nat) (va : Nat → Int) : Prop := ∃ (keys : List (SE × SE)) (spl : List (SE × SE × Nat)), (∀ p ∈ keys, p.1.den (EE va) = p.2.den (EE va)) ∧ (∀ s ∈ spl, s.1.den (EE va) ≠ 0 → ∃ c : Nat, c < s.2.2 ∧ s.2.1.den (EE va) = c) ∧
  yes (call Tryz.prog (Gu (keyL len j :: keys) spl) sums 60 f lawArgs .lf 0) = true
theorem law_cases {f : FuncId} {fn : Func} (hf : Tryz.prog.funcs[f]? = some fn) (hb : fn.body.isSome = true) {sums : Tr Sm} (hS : ∀ va keys spl, SumsOk (EE va) Tryz.prog (Gu keys spl) sums) {len : Nat} (h0 : 0 < len)
    (hall : ∀ j, j < len → ∀ va, Case sums f len j va) {W : World} (hT : TabOk W) {x t1 l1 m1 t2 l2 m2 t3 l3 m3 y : Int} {n1 n2 n3 : Bool} (h : Rng x t1 l1 m1 t2 l2 m2 t3 l3 m3 y) :
    Calls Tryz.prog f (valA x t1 l1 m1 t2 l2 m2 t3 l3 m3 y n1 n2 n3) W (fun e W' => e = .returned (.bool true) ∧ Below W.heap.size W W') := by
  obtain ⟨j, hj, hk⟩ := keyL_holds (E := EE (lawVa x t1 l1 m1 t2 l2 m2 t3 l3 m3 y n1 n2 n3)) h0
  obtain ⟨keys, spl, k1, k2, k3⟩ := hall j hj (lawVa x t1 l1 m1 t2 l2 m2 t3 l3 m3 y n1 n2 n3)
  exact law_core hf hb rfl (hS _ _ _) k3 hT (fun p hp => by
    rcases List.mem_cons.1 hp with rfl | hp
    · exact hk
    · exact k1 p hp) k2 h
theorem case_plain {sums : Tr Sm} {f len j : Nat} (h : yes (call Tryz.prog (Gu [keyL len j] []) sums 60 f lawArgs .lf 0) = true) (va : Nat → Int) : Case sums f len j va := ⟨[], [], fun p hp => (by cases hp), fun s hs => (by cases hs), h⟩
/-- which lane -/
def laneK (L s : Nat) : List (SE × SE) := [(.tmod (.md (.var 0) 6) (.lit (.ofNat L)), .lit (.ofNat s))]
theorem case_lane {sums : Tr Sm} {f len j L : Nat} (h0 : 0 < L) (h : ∀ s, s < L → yes (call Tryz.prog (Gu (keyL len j :: laneK L s) []) sums 60 f lawArgs .lf 0) = true) (va : Nat → Int) : Case sums f len j va := by
  have h1 := emod_range (va 0) 6
  have h2 := Int.emod_nonneg (va 0 % 2 ^ 6) (show (L : Int) ≠ 0 by omega)
  have h3 := Int.emod_lt_of_pos (va 0 % 2 ^ 6) (show (0 : Int) < L by omega)
  refine ⟨laneK L ((va 0 % 2 ^ 6) % L).toNat, [], fun p hp => ?_, fun s hs => (by cases hs), h _ (by omega)⟩
  rw [List.mem_singleton.1 hp]
  simp only [SE.den, Int.ofNat_eq_natCast, EE]
  rw [Int.tmod_eq_emod_of_nonneg h1.1, Int.toNat_of_nonneg h2]
/-- which lanes are chosen -/
def shufK (s : Nat) : Nat → List (SE × SE)
  | 0 => []
  | j + 1 => (.tmod (mkWrap .i64 (mkAdd (.md (.var 0) 5) (.lit (.ofNat (j * j))))) (.lit 32), .lit (.ofNat ((s + j * j) % 32))) :: shufK s j
theorem shufK_holds {E : Env} {s : Nat} (h : E.va 0 % 2 ^ 5 = s) (hs : s < 32) : ∀ n, n ≤ 16 → ∀ p ∈ shufK s n, p.1.den E = p.2.den E := by
  intro n
  induction n with
  | zero => intro _ p hp; cases hp
  | succ j ih =>
    intro hn p hp
    rcases List.mem_cons.1 hp with rfl | hp
    · have hj : j * j ≤ 225 := Nat.mul_le_mul (show j ≤ 15 by omega) (show j ≤ 15 by omega)
      simp only [SE.den, mkWrap_den, mkAdd_den, Int.ofNat_eq_natCast, h]
      generalize j * j = q at *
      have e : IntKind.i64.wrap ((s : Int) + (q : Int)) = ((s + q : Nat) : Int) := by
        simp [IntKind.wrap, IntKind.bits, IntKind.signed]
        omega
      rw [e, Int.tmod_eq_emod_of_nonneg (by omega)]
      push_cast
      rfl
    · exact ih (by omega) p hp
theorem case_shuffle {sums : Tr Sm} {f len j : Nat} (h : ∀ s, s < 32 → yes (call Tryz.prog (Gu (keyL len j :: shufK s 16) []) sums 60 f lawArgs .lf 0) = true) (va : Nat → Int) : Case sums f len j va := by
  have h1 := emod_range (va 0) 5
  obtain ⟨s, hs⟩ := Int.eq_ofNat_of_zero_le h1.1
  have hlt : s < 32 := by rw [hs] at h1; have := h1.2; omega
  exact ⟨shufK s 16, [], shufK_holds (E := EE va) hs hlt 16 (Nat.le_refl _), fun s hs => (by cases hs), h s hlt⟩
/-- a byte of the second vector -/
def byteE (i : Nat) : SE := mkMd (mkShr (.var (cond (Nat.blt i 8) 6 7)) (8 * (i % 8))) 8
def swSpl : Nat → List (SE × SE × Nat)
  | 0 => []
  | i + 1 => (mkLt (byteE i) (.lit 16), byteE i, 16) :: swSpl i
theorem swSpl_holds {E : Env} : ∀ n, ∀ s ∈ swSpl n, s.1.den E ≠ 0 → ∃ c : Nat, c < s.2.2 ∧ s.2.1.den E = c := by
  intro n
  induction n with
  | zero => intro s hs; cases hs
  | succ i ih =>
    intro s hs
    rcases List.mem_cons.1 hs with rfl | hs
    · intro hd
      simp only [mkLt_den, byteE, mkMd_den, SE.den] at hd ⊢
      have h1 := emod_range ((mkShr (.var (cond (Nat.blt i 8) 6 7)) (8 * (i % 8))).den E) 8
      obtain ⟨c, hc⟩ := Int.eq_ofNat_of_zero_le h1.1
      rw [hc] at hd ⊢
      refine ⟨c, ?_, rfl⟩
      by_cases hlt : (c : Int) < 16
      · omega
      · simp [hlt] at hd
    · exact ih s hs
theorem case_swizzle {sums : Tr Sm} {f len j : Nat} (h : yes (call Tryz.prog (Gu [keyL len j] (swSpl 16)) sums 60 f lawArgs .lf 0) = true) (va : Nat → Int) : Case sums f len j va := ⟨[], swSpl 16, fun p hp => (by cases hp), swSpl_holds 16, h⟩

end Sx
end Go.Proofs.YtfdggebddcoeeaaGreatDoor
end

/-
  How two floats stand: the program and the reference come to the same.
-/
set_option maxRecDepth 100000
noncomputable section
namespace Go.Proofs.YtfdggebddcoeeaaGreatDoor
namespace Sx
open Go Go.RowKit

def LeafFR (f : FuncId) (n op : Nat) : Prop := ∀ x y : Int, inR .u64 x → inR .u64 y → ∀ w, CX Tryz.prog f #[.int .i64 n, .int .i64 op, .int .u64 x, .int .u64 y] w (fun u w' => u = .tuple #[.bool (FR n op x y), .int .i64 0] ∧ Below w.heap.size w w')
def isBo (r : R) (a : SE) : Bool := match r with
  | some (v, _, _) => match v with
    | .tup l => match l with
      | [x, y] => match x with
        | .bool e => match y with
          | .int j z => match z with
            | .lit z => cond (int0 z) (cond (decide (j = .i64)) (SE.beq e a) false) false
            | _ => false
          | _ => false
        | _ => false
      | _ => false
    | _ => false
  | none => false
theorem isBo_ok {r : R} {a : SE} (h : isBo r a = true) : ∃ hp k, r = some (.tup [.bool a, .int .i64 (.lit 0)], hp, k) := by
  unfold isBo at h
  repeat' (split at h)
  all_goals first
    | (cases h; done)
    | (rename_i z
       cases h1 : int0 z <;> rw [h1] at h <;> try (cases h; done)
       rename_i j _
       simp only [Bool.cond_true] at h
       cases h3 : decide (j = IntKind.i64) <;> rw [h3] at h <;> try (cases h; done)
       rw [of_decide_eq_true h3, (int0_iff z).1 h1, SE.beq_eq h]
       exact ⟨_, _, rfl⟩)
theorem leafFR_prog {n op : Nat} (hn : n = 32 ∨ n = 64) (ho : 1 ≤ op ∧ op ≤ 6) (h : isBo (run0 [] 105 (args2 n op)) (relE n op (.md (.var 0) 64) (.md (.var 1) 64)) = true) : LeafFR 105 n op := by
  intro x y hx hy w
  obtain ⟨hp, k, e⟩ := isBo_ok h
  have hc := leaf_cx e (vars2 x y) (fun p hp => by cases hp) (wf2 (by omega) (by omega)) w
  rw [den2 n op rfl rfl hx hy] at hc
  refine cx_mono hc fun v w' hv => ?_
  obtain ⟨⟨loc', h1⟩, h2, _⟩ := hv
  refine ⟨?_, h2⟩
  rw [h1]
  have e0 : (SE.md (.var 0) 64).den (vars2 x y) = x := u64_id hx
  have e1 : (SE.md (.var 1) 64).den (vars2 x y) = y := u64_id hy
  have hd := relE_den (vars2 x y) hn ho (a := .md (.var 0) 64) (b := .md (.var 1) 64) (by rw [e0]; exact hx) (by rw [e1]; exact hy)
  rw [e0, e1] at hd
  simp only [SV.den, denL, hd]
  cases FR n op x y <;> rfl
theorem prel32_1 : LeafFR 105 32 1 := leafFR_prog (by decide) (by decide) (by kernel_rfl)
theorem prel32_2 : LeafFR 105 32 2 := leafFR_prog (by decide) (by decide) (by kernel_rfl)
theorem prel32_3 : LeafFR 105 32 3 := leafFR_prog (by decide) (by decide) (by kernel_rfl)
theorem prel32_4 : LeafFR 105 32 4 := leafFR_prog (by decide) (by decide) (by kernel_rfl)
theorem prel32_5 : LeafFR 105 32 5 := leafFR_prog (by decide) (by decide) (by kernel_rfl)
theorem prel32_6 : LeafFR 105 32 6 := leafFR_prog (by decide) (by decide) (by kernel_rfl)
theorem prel64_1 : LeafFR 105 64 1 := leafFR_prog (by decide) (by decide) (by kernel_rfl)
theorem prel64_2 : LeafFR 105 64 2 := leafFR_prog (by decide) (by decide) (by kernel_rfl)
theorem prel64_3 : LeafFR 105 64 3 := leafFR_prog (by decide) (by decide) (by kernel_rfl)
theorem prel64_4 : LeafFR 105 64 4 := leafFR_prog (by decide) (by decide) (by kernel_rfl)
theorem prel64_5 : LeafFR 105 64 5 := leafFR_prog (by decide) (by decide) (by kernel_rfl)
theorem prel64_6 : LeafFR 105 64 6 := leafFR_prog (by decide) (by decide) (by kernel_rfl)

/-! the reference -/
theorem drew_below {w w1 w2 : World} (h1 : Drew w w1) (h2 : Drew w1 w2) : Below w.heap.size w w2 := by
  rcases h1 with rfl | rfl <;> rcases h2 with rfl | rfl
  · exact Below.refl _ _
  · exact (Below.refl _ _).drew
  · exact (Below.refl _ _).drew
  · exact ((Below.refl _ _).drew).drew
theorem order_wide {a b r s : Nat} (h1 : Fx.isNaN Ieee.single a = false → r = Fx.widen a) (h2 : Fx.isNaN Ieee.single a = true → Fx.isNaN Ieee.double r = true) (h3 : Fx.isNaN Ieee.single b = false → s = Fx.widen b) (h4 : Fx.isNaN Ieee.single b = true → Fx.isNaN Ieee.double s = true) :
    Ieee.double.order r s = Ieee.single.order a b := by
  have e64 : (2 : Nat) ≤ Ieee.double.exponentBits := by decide
  have e32 : (2 : Nat) ≤ Ieee.single.exponentBits := by decide
  cases ha : Fx.isNaN Ieee.single a
  · cases hb : Fx.isNaN Ieee.single b
    · rw [h1 ha, h3 hb]
      refine Fx.order_widen ?_ ?_
      · simpa [Fx.isNaN] using ha
      · simpa [Fx.isNaN] using hb
    · rw [(Fx.order_none _ e64 _ _).2 (.inr (h4 hb)), (Fx.order_none _ e32 _ _).2 (.inr hb)]
  · rw [(Fx.order_none _ e64 _ _).2 (.inl (h2 ha)), (Fx.order_none _ e32 _ _).2 (.inl ha)]
theorem word64 {x : Int} (hx : inR .u64 x) : wordOf 64 x = x.toNat := by
  unfold wordOf
  rw [u64_id hx]
theorem word32 (x : Int) : wordOf 32 x = (x % 4294967296).toNat := rfl
theorem wrel64_1 (x y : Int) (w : World) : Calls Tryz.prog 116 #[.int .i64 64, .int .i64 1, .int .u64 x, .int .u64 y] w fun e w' => e = .returned (.tuple #[.bool (relF (Ieee.double.order x.toNat y.toNat) 1), .int .i64 0]) ∧ Below w.heap.size w w' := by
  go_enter Tryz.func116, Tryz.ntmps116
  go_wp2
  all_goals (go_ret2; exact ⟨rfl, (Below.refl _ _).alloc (Nat.le_refl _) _⟩)
theorem wrel32_1 (x y : Int) (w : World) : Calls Tryz.prog 116 #[.int .i64 32, .int .i64 1, .int .u64 x, .int .u64 y] w fun e w' => e = .returned (.tuple #[.bool (relF (Ieee.single.order (x % 4294967296).toNat (y % 4294967296).toNat) 1), .int .i64 0]) ∧ Below w.heap.size w w' := by
  obtain ⟨r, w1, hrun1, d1, a1, a2⟩ := conv_wide (x % 4294967296).toNat w
  obtain ⟨s, w2, hrun2, d2, b1, b2⟩ := conv_wide (y % 4294967296).toNat w1
  have ho := order_wide a1 a2 b1 b2
  have hb := drew_below d1 d2
  clear a1 a2 b1 b2 d1 d2
  rw [← ho]
  clear ho
  go_enter Tryz.func116, Tryz.ntmps116
  go_wp2
  all_goals (go_ret2; exact ⟨rfl, hb.alloc hb.size _⟩)
theorem rrel64_1 : LeafFR 116 64 1 := fun x y hx hy w => by
  refine cx_of_calls okP Tryz.func116 (by kernel_rfl) ((wrel64_1 x y w).mono fun e w' ⟨h1, h2⟩ => ?_)
  subst h1
  refine ⟨?_, h2⟩
  unfold FR
  rw [word64 hx, word64 hy]
  rfl
theorem rrel32_1 : LeafFR 116 32 1 := fun x y _ _ w => by
  refine cx_of_calls okP Tryz.func116 (by kernel_rfl) ((wrel32_1 x y w).mono fun e w' ⟨h1, h2⟩ => ?_)
  subst h1
  exact ⟨rfl, h2⟩
theorem wrel64_2 (x y : Int) (w : World) : Calls Tryz.prog 116 #[.int .i64 64, .int .i64 2, .int .u64 x, .int .u64 y] w fun e w' => e = .returned (.tuple #[.bool (relF (Ieee.double.order x.toNat y.toNat) 2), .int .i64 0]) ∧ Below w.heap.size w w' := by
  go_enter Tryz.func116, Tryz.ntmps116
  go_wp2
  all_goals (go_ret2; exact ⟨rfl, (Below.refl _ _).alloc (Nat.le_refl _) _⟩)
theorem wrel32_2 (x y : Int) (w : World) : Calls Tryz.prog 116 #[.int .i64 32, .int .i64 2, .int .u64 x, .int .u64 y] w fun e w' => e = .returned (.tuple #[.bool (relF (Ieee.single.order (x % 4294967296).toNat (y % 4294967296).toNat) 2), .int .i64 0]) ∧ Below w.heap.size w w' := by
  obtain ⟨r, w1, hrun1, d1, a1, a2⟩ := conv_wide (x % 4294967296).toNat w
  obtain ⟨s, w2, hrun2, d2, b1, b2⟩ := conv_wide (y % 4294967296).toNat w1
  have ho := order_wide a1 a2 b1 b2
  have hb := drew_below d1 d2
  clear a1 a2 b1 b2 d1 d2
  rw [← ho]
  clear ho
  go_enter Tryz.func116, Tryz.ntmps116
  go_wp2
  all_goals (go_ret2; exact ⟨rfl, hb.alloc hb.size _⟩)
theorem rrel64_2 : LeafFR 116 64 2 := fun x y hx hy w => by
  refine cx_of_calls okP Tryz.func116 (by kernel_rfl) ((wrel64_2 x y w).mono fun e w' ⟨h1, h2⟩ => ?_)
  subst h1
  refine ⟨?_, h2⟩
  unfold FR
  rw [word64 hx, word64 hy]
  rfl
theorem rrel32_2 : LeafFR 116 32 2 := fun x y _ _ w => by
  refine cx_of_calls okP Tryz.func116 (by kernel_rfl) ((wrel32_2 x y w).mono fun e w' ⟨h1, h2⟩ => ?_)
  subst h1
  exact ⟨rfl, h2⟩
theorem wrel64_3 (x y : Int) (w : World) : Calls Tryz.prog 116 #[.int .i64 64, .int .i64 3, .int .u64 x, .int .u64 y] w fun e w' => e = .returned (.tuple #[.bool (relF (Ieee.double.order x.toNat y.toNat) 3), .int .i64 0]) ∧ Below w.heap.size w w' := by
  go_enter Tryz.func116, Tryz.ntmps116
  go_wp2
  all_goals (go_ret2; exact ⟨rfl, (Below.refl _ _).alloc (Nat.le_refl _) _⟩)
theorem wrel32_3 (x y : Int) (w : World) : Calls Tryz.prog 116 #[.int .i64 32, .int .i64 3, .int .u64 x, .int .u64 y] w fun e w' => e = .returned (.tuple #[.bool (relF (Ieee.single.order (x % 4294967296).toNat (y % 4294967296).toNat) 3), .int .i64 0]) ∧ Below w.heap.size w w' := by
  obtain ⟨r, w1, hrun1, d1, a1, a2⟩ := conv_wide (x % 4294967296).toNat w
  obtain ⟨s, w2, hrun2, d2, b1, b2⟩ := conv_wide (y % 4294967296).toNat w1
  have ho := order_wide a1 a2 b1 b2
  have hb := drew_below d1 d2
  clear a1 a2 b1 b2 d1 d2
  rw [← ho]
  clear ho
  go_enter Tryz.func116, Tryz.ntmps116
  go_wp2
  all_goals (go_ret2; exact ⟨rfl, hb.alloc hb.size _⟩)
theorem rrel64_3 : LeafFR 116 64 3 := fun x y hx hy w => by
  refine cx_of_calls okP Tryz.func116 (by kernel_rfl) ((wrel64_3 x y w).mono fun e w' ⟨h1, h2⟩ => ?_)
  subst h1
  refine ⟨?_, h2⟩
  unfold FR
  rw [word64 hx, word64 hy]
  rfl
theorem rrel32_3 : LeafFR 116 32 3 := fun x y _ _ w => by
  refine cx_of_calls okP Tryz.func116 (by kernel_rfl) ((wrel32_3 x y w).mono fun e w' ⟨h1, h2⟩ => ?_)
  subst h1
  exact ⟨rfl, h2⟩
theorem wrel64_4 (x y : Int) (w : World) : Calls Tryz.prog 116 #[.int .i64 64, .int .i64 4, .int .u64 x, .int .u64 y] w fun e w' => e = .returned (.tuple #[.bool (relF (Ieee.double.order x.toNat y.toNat) 4), .int .i64 0]) ∧ Below w.heap.size w w' := by
  go_enter Tryz.func116, Tryz.ntmps116
  go_wp2
  all_goals (go_ret2; exact ⟨rfl, (Below.refl _ _).alloc (Nat.le_refl _) _⟩)
theorem wrel32_4 (x y : Int) (w : World) : Calls Tryz.prog 116 #[.int .i64 32, .int .i64 4, .int .u64 x, .int .u64 y] w fun e w' => e = .returned (.tuple #[.bool (relF (Ieee.single.order (x % 4294967296).toNat (y % 4294967296).toNat) 4), .int .i64 0]) ∧ Below w.heap.size w w' := by
  obtain ⟨r, w1, hrun1, d1, a1, a2⟩ := conv_wide (x % 4294967296).toNat w
  obtain ⟨s, w2, hrun2, d2, b1, b2⟩ := conv_wide (y % 4294967296).toNat w1
  have ho := order_wide a1 a2 b1 b2
  have hb := drew_below d1 d2
  clear a1 a2 b1 b2 d1 d2
  rw [← ho]
  clear ho
  go_enter Tryz.func116, Tryz.ntmps116
  go_wp2
  all_goals (go_ret2; exact ⟨rfl, hb.alloc hb.size _⟩)
theorem rrel64_4 : LeafFR 116 64 4 := fun x y hx hy w => by
  refine cx_of_calls okP Tryz.func116 (by kernel_rfl) ((wrel64_4 x y w).mono fun e w' ⟨h1, h2⟩ => ?_)
  subst h1
  refine ⟨?_, h2⟩
  unfold FR
  rw [word64 hx, word64 hy]
  rfl
theorem rrel32_4 : LeafFR 116 32 4 := fun x y _ _ w => by
  refine cx_of_calls okP Tryz.func116 (by kernel_rfl) ((wrel32_4 x y w).mono fun e w' ⟨h1, h2⟩ => ?_)
  subst h1
  exact ⟨rfl, h2⟩
theorem wrel64_5 (x y : Int) (w : World) : Calls Tryz.prog 116 #[.int .i64 64, .int .i64 5, .int .u64 x, .int .u64 y] w fun e w' => e = .returned (.tuple #[.bool (relF (Ieee.double.order x.toNat y.toNat) 5), .int .i64 0]) ∧ Below w.heap.size w w' := by
  go_enter Tryz.func116, Tryz.ntmps116
  go_wp2
  all_goals (go_ret2; exact ⟨rfl, (Below.refl _ _).alloc (Nat.le_refl _) _⟩)
theorem wrel32_5 (x y : Int) (w : World) : Calls Tryz.prog 116 #[.int .i64 32, .int .i64 5, .int .u64 x, .int .u64 y] w fun e w' => e = .returned (.tuple #[.bool (relF (Ieee.single.order (x % 4294967296).toNat (y % 4294967296).toNat) 5), .int .i64 0]) ∧ Below w.heap.size w w' := by
  obtain ⟨r, w1, hrun1, d1, a1, a2⟩ := conv_wide (x % 4294967296).toNat w
  obtain ⟨s, w2, hrun2, d2, b1, b2⟩ := conv_wide (y % 4294967296).toNat w1
  have ho := order_wide a1 a2 b1 b2
  have hb := drew_below d1 d2
  clear a1 a2 b1 b2 d1 d2
  rw [← ho]
  clear ho
  go_enter Tryz.func116, Tryz.ntmps116
  go_wp2
  all_goals (go_ret2; exact ⟨rfl, hb.alloc hb.size _⟩)
theorem rrel64_5 : LeafFR 116 64 5 := fun x y hx hy w => by
  refine cx_of_calls okP Tryz.func116 (by kernel_rfl) ((wrel64_5 x y w).mono fun e w' ⟨h1, h2⟩ => ?_)
  subst h1
  refine ⟨?_, h2⟩
  unfold FR
  rw [word64 hx, word64 hy]
  rfl
theorem rrel32_5 : LeafFR 116 32 5 := fun x y _ _ w => by
  refine cx_of_calls okP Tryz.func116 (by kernel_rfl) ((wrel32_5 x y w).mono fun e w' ⟨h1, h2⟩ => ?_)
  subst h1
  exact ⟨rfl, h2⟩
theorem wrel64_6 (x y : Int) (w : World) : Calls Tryz.prog 116 #[.int .i64 64, .int .i64 6, .int .u64 x, .int .u64 y] w fun e w' => e = .returned (.tuple #[.bool (relF (Ieee.double.order x.toNat y.toNat) 6), .int .i64 0]) ∧ Below w.heap.size w w' := by
  go_enter Tryz.func116, Tryz.ntmps116
  go_wp2
  all_goals (go_ret2; exact ⟨rfl, (Below.refl _ _).alloc (Nat.le_refl _) _⟩)
theorem wrel32_6 (x y : Int) (w : World) : Calls Tryz.prog 116 #[.int .i64 32, .int .i64 6, .int .u64 x, .int .u64 y] w fun e w' => e = .returned (.tuple #[.bool (relF (Ieee.single.order (x % 4294967296).toNat (y % 4294967296).toNat) 6), .int .i64 0]) ∧ Below w.heap.size w w' := by
  obtain ⟨r, w1, hrun1, d1, a1, a2⟩ := conv_wide (x % 4294967296).toNat w
  obtain ⟨s, w2, hrun2, d2, b1, b2⟩ := conv_wide (y % 4294967296).toNat w1
  have ho := order_wide a1 a2 b1 b2
  have hb := drew_below d1 d2
  clear a1 a2 b1 b2 d1 d2
  rw [← ho]
  clear ho
  go_enter Tryz.func116, Tryz.ntmps116
  go_wp2
  all_goals (go_ret2; exact ⟨rfl, hb.alloc hb.size _⟩)
theorem rrel64_6 : LeafFR 116 64 6 := fun x y hx hy w => by
  refine cx_of_calls okP Tryz.func116 (by kernel_rfl) ((wrel64_6 x y w).mono fun e w' ⟨h1, h2⟩ => ?_)
  subst h1
  refine ⟨?_, h2⟩
  unfold FR
  rw [word64 hx, word64 hy]
  rfl
theorem rrel32_6 : LeafFR 116 32 6 := fun x y _ _ w => by
  refine cx_of_calls okP Tryz.func116 (by kernel_rfl) ((wrel32_6 x y w).mono fun e w' ⟨h1, h2⟩ => ?_)
  subst h1
  exact ⟨rfl, h2⟩

end Sx
end Go.Proofs.YtfdggebddcoeeaaGreatDoor
end

/-
  The reference's lesser and greater of two floats: walks.
-/
set_option maxRecDepth 100000
noncomputable section
namespace Go.Proofs.YtfdggebddcoeeaaGreatDoor
namespace Sx
open Go Go.RowKit

abbrev od (x y : Nat) : Option Ordering := FloatKind.f64.format.order x y
def refEnd (mn : Bool) (s canon x y : Int) (a b : Nat) : Int :=
  if (od a a != some .eq) = true ∨ (od b b != some .eq) = true then canon
  else if (od a 0 == some .eq) = true ∧ (od b 0 == some .eq) = true ∧ (mn == decide (s ≤ x)) = true then x
  else if ((od a 0 == some .eq) = true ∧ (od b 0 == some .eq) = true) ∨ ((od a b == some .lt) != mn) = true then y else x
def refP (x y : Int) (a b : Nat) : Int := if (od a b == some .lt) = true then y else x
theorem wbin64_5 (x y : Int) (w : World) : Calls Tryz.prog 114 #[.int .i64 64, .int .i64 5, .int .u64 x, .int .u64 y] w fun e w' => e = .returned (.tuple #[.int .u64 (refEnd true 9223372036854775808 9221120237041090560 x y x.toNat y.toNat), .int .i64 0]) ∧ Below w.heap.size w w' := by
  go_enter Tryz.func114, Tryz.ntmps114
  go_wp2
  all_goals (go_ret2; refine ⟨?_, Below.refl _ _⟩)
  all_goals (unfold refEnd; first | (simp_all; done) | (simp_all; omega))
theorem wbin32_5 (x y : Int) (w : World) (hx : 0 ≤ x) (hy : 0 ≤ y) {r s : Nat} {w1 w2 : World} (hrun1 : (convert 147 143 (.float .f32 (x % 4294967296).toNat)).run Tryz.prog w = .ok (.float .f64 r) w1) (hrun2 : (convert 147 143 (.float .f32 (y % 4294967296).toNat)).run Tryz.prog w1 = .ok (.float .f64 s) w2) (hb : Below w.heap.size w w2) :
    Calls Tryz.prog 114 #[.int .i64 32, .int .i64 5, .int .u64 x, .int .u64 y] w fun e w' => e = .returned (.tuple #[.int .u64 (refEnd true 2147483648 2143289344 (x % 4294967296) (y % 4294967296) r s), .int .i64 0]) ∧ Below w.heap.size w w' := by
  go_enter Tryz.func114, Tryz.ntmps114
  go_wp2
  all_goals (go_ret2; refine ⟨?_, hb⟩)
  all_goals (clear hrun1 hrun2; unfold refEnd; first | (simp_all; done) | (simp_all; omega))
theorem wbin64_6 (x y : Int) (w : World) : Calls Tryz.prog 114 #[.int .i64 64, .int .i64 6, .int .u64 x, .int .u64 y] w fun e w' => e = .returned (.tuple #[.int .u64 (refEnd false 9223372036854775808 9221120237041090560 x y x.toNat y.toNat), .int .i64 0]) ∧ Below w.heap.size w w' := by
  go_enter Tryz.func114, Tryz.ntmps114
  go_wp2
  all_goals (go_ret2; refine ⟨?_, Below.refl _ _⟩)
  all_goals (unfold refEnd; first | (simp_all; done) | (simp_all; omega))
theorem wbin32_6 (x y : Int) (w : World) (hx : 0 ≤ x) (hy : 0 ≤ y) {r s : Nat} {w1 w2 : World} (hrun1 : (convert 147 143 (.float .f32 (x % 4294967296).toNat)).run Tryz.prog w = .ok (.float .f64 r) w1) (hrun2 : (convert 147 143 (.float .f32 (y % 4294967296).toNat)).run Tryz.prog w1 = .ok (.float .f64 s) w2) (hb : Below w.heap.size w w2) :
    Calls Tryz.prog 114 #[.int .i64 32, .int .i64 6, .int .u64 x, .int .u64 y] w fun e w' => e = .returned (.tuple #[.int .u64 (refEnd false 2147483648 2143289344 (x % 4294967296) (y % 4294967296) r s), .int .i64 0]) ∧ Below w.heap.size w w' := by
  go_enter Tryz.func114, Tryz.ntmps114
  go_wp2
  all_goals (go_ret2; refine ⟨?_, hb⟩)
  all_goals (clear hrun1 hrun2; unfold refEnd; first | (simp_all; done) | (simp_all; omega))
theorem wbin64_8 (x y : Int) (w : World) : Calls Tryz.prog 114 #[.int .i64 64, .int .i64 8, .int .u64 x, .int .u64 y] w fun e w' => e = .returned (.tuple #[.int .u64 (refP x y y.toNat x.toNat), .int .i64 0]) ∧ Below w.heap.size w w' := by
  go_enter Tryz.func114, Tryz.ntmps114
  go_wp2
  all_goals (go_ret2; refine ⟨?_, Below.refl _ _⟩)
  all_goals (unfold refP; first | (simp_all; done) | (simp_all; omega))
theorem wbin32_8 (x y : Int) (w : World) (hx : 0 ≤ x) (hy : 0 ≤ y) {r s : Nat} {w1 w2 : World} (hrun1 : (convert 147 143 (.float .f32 (x % 4294967296).toNat)).run Tryz.prog w = .ok (.float .f64 r) w1) (hrun2 : (convert 147 143 (.float .f32 (y % 4294967296).toNat)).run Tryz.prog w1 = .ok (.float .f64 s) w2) (hb : Below w.heap.size w w2) :
    Calls Tryz.prog 114 #[.int .i64 32, .int .i64 8, .int .u64 x, .int .u64 y] w fun e w' => e = .returned (.tuple #[.int .u64 (refP (x % 4294967296) (y % 4294967296) s r), .int .i64 0]) ∧ Below w.heap.size w w' := by
  go_enter Tryz.func114, Tryz.ntmps114
  go_wp2
  all_goals (go_ret2; refine ⟨?_, hb⟩)
  all_goals (clear hrun1 hrun2; unfold refP; first | (simp_all; done) | (simp_all; omega))
theorem wbin64_9 (x y : Int) (w : World) : Calls Tryz.prog 114 #[.int .i64 64, .int .i64 9, .int .u64 x, .int .u64 y] w fun e w' => e = .returned (.tuple #[.int .u64 (refP x y x.toNat y.toNat), .int .i64 0]) ∧ Below w.heap.size w w' := by
  go_enter Tryz.func114, Tryz.ntmps114
  go_wp2
  all_goals (go_ret2; refine ⟨?_, Below.refl _ _⟩)
  all_goals (unfold refP; first | (simp_all; done) | (simp_all; omega))
theorem wbin32_9 (x y : Int) (w : World) (hx : 0 ≤ x) (hy : 0 ≤ y) {r s : Nat} {w1 w2 : World} (hrun1 : (convert 147 143 (.float .f32 (x % 4294967296).toNat)).run Tryz.prog w = .ok (.float .f64 r) w1) (hrun2 : (convert 147 143 (.float .f32 (y % 4294967296).toNat)).run Tryz.prog w1 = .ok (.float .f64 s) w2) (hb : Below w.heap.size w w2) :
    Calls Tryz.prog 114 #[.int .i64 32, .int .i64 9, .int .u64 x, .int .u64 y] w fun e w' => e = .returned (.tuple #[.int .u64 (refP (x % 4294967296) (y % 4294967296) r s), .int .i64 0]) ∧ Below w.heap.size w w' := by
  go_enter Tryz.func114, Tryz.ntmps114
  go_wp2
  all_goals (go_ret2; refine ⟨?_, hb⟩)
  all_goals (clear hrun1 hrun2; unfold refP; first | (simp_all; done) | (simp_all; omega))

end Sx
end Go.Proofs.YtfdggebddcoeeaaGreatDoor
end
