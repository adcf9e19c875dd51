/-
  Rounding: the rung nearest to a number of units; a number cut short with its lost bits told by the last one rounds alike.
-/
import GoSem.Core.Float
set_option linter.unusedVariables false
set_option linter.unusedSimpArgs false
namespace Go.Proofs.YtfdggebddcoeeaaGreatDoor
namespace Fx
open Ieee

/-- 'n / 2^d' to the nearest, between two the even one -/
def rnd (n d : Nat) : Nat := n / 2 ^ d + (if 2 ^ d < 2 * (n % 2 ^ d) ∨ (2 ^ d = 2 * (n % 2 ^ d) ∧ n / 2 ^ d % 2 = 1) then 1 else 0)
theorem rnd_zero (n : Nat) : rnd n 0 = n := by
  unfold rnd
  simp [Nat.mod_one]
theorem pow_split (a b : Nat) : 2 ^ (a + b) = 2 ^ a * 2 ^ b := Nat.pow_add ..
theorem mod_pow_add (n j e : Nat) : n % 2 ^ (j + e) = (n / 2 ^ j % 2 ^ e) * 2 ^ j + n % 2 ^ j := by
  rw [pow_split, Nat.mod_mul, Nat.mul_comm (2 ^ j), Nat.add_comm]
theorem div_pow_add (n j e : Nat) : n / 2 ^ (j + e) = n / 2 ^ j / 2 ^ e := by rw [pow_split, Nat.div_div_eq_div_mul]
theorem rnd_scale (n d k : Nat) : rnd (n * 2 ^ k) (k + d) = rnd n d := by
  have hp := Nat.two_pow_pos k
  have e1 : n * 2 ^ k / 2 ^ k = n := Nat.mul_div_cancel _ hp
  have e2 : n * 2 ^ k % 2 ^ k = 0 := Nat.mul_mod_left ..
  unfold rnd
  rw [mod_pow_add, div_pow_add, e1, e2, Nat.add_zero, pow_split]
  have h1 : (2 ^ k * 2 ^ d < 2 * (n % 2 ^ d * 2 ^ k)) ↔ 2 ^ d < 2 * (n % 2 ^ d) := by
    rw [Nat.mul_comm (2 ^ k), ← Nat.mul_assoc]
    exact Nat.mul_lt_mul_right hp
  have h2 : (2 ^ k * 2 ^ d = 2 * (n % 2 ^ d * 2 ^ k)) ↔ 2 ^ d = 2 * (n % 2 ^ d) := by
    rw [Nat.mul_comm (2 ^ k), ← Nat.mul_assoc]
    exact Nat.mul_left_inj (Nat.pos_iff_ne_zero.1 hp)
  simp only [h1, h2]
theorem log2_bounds {n : Nat} (h : n ≠ 0) : 2 ^ n.log2 ≤ n ∧ n < 2 ^ (n.log2 + 1) := ⟨Nat.log2_self_le h, Nat.lt_log2_self⟩
theorem cut_even (s : Bool) (n d : Nat) : Toward.even.cut s n d = rnd n d := by
  have key : ∀ d', (n / (1 <<< d') + (1 <<< d' < 2 * (n % (1 <<< d')) || (1 <<< d' == 2 * (n % (1 <<< d')) && n / (1 <<< d') % 2 == 1)).toNat) = rnd n d' := by
    intro d'
    unfold rnd
    rw [Nat.one_shiftLeft]
    congr 1
    by_cases h1 : 2 ^ d' < 2 * (n % 2 ^ d')
    · simp [h1]
    · rw [decide_eq_false h1, Bool.false_or]
      by_cases h2 : 2 ^ d' = 2 * (n % 2 ^ d')
      · rw [beq_iff_eq.2 h2, Bool.true_and]
        by_cases h3 : n / 2 ^ d' % 2 = 1
        · rw [beq_iff_eq.2 h3, if_pos (.inr ⟨h2, h3⟩)]; rfl
        · rw [beq_eq_false_iff_ne.2 h3, if_neg (fun h => h.elim h1 fun h => h3 h.2)]; rfl
      · rw [beq_eq_false_iff_ne.2 h2, if_neg (fun h => h.elim h1 fun h => h2 h.1)]; rfl
  show (n / (1 <<< min d (n.log2 + 2)) + (1 <<< min d (n.log2 + 2) < 2 * (n % (1 <<< min d (n.log2 + 2))) || (1 <<< min d (n.log2 + 2) == 2 * (n % (1 <<< min d (n.log2 + 2))) && n / (1 <<< min d (n.log2 + 2)) % 2 == 1)).toNat) = rnd n d
  rw [key]
  by_cases hd : d ≤ n.log2 + 2
  · rw [Nat.min_eq_left hd]
  · have hd' : n.log2 + 2 ≤ d := by omega
    rw [Nat.min_eq_right hd']
    have hlt : n < 2 ^ (n.log2 + 1) := Nat.lt_log2_self
    have small : ∀ k, n.log2 + 2 ≤ k → rnd n k = 0 := by
      intro k hk
      have h1 : 2 ^ (n.log2 + 2) ≤ 2 ^ k := Nat.pow_le_pow_right (by decide) hk
      have h2 : 2 ^ (n.log2 + 2) = 2 * 2 ^ (n.log2 + 1) := by rw [Nat.pow_succ]; omega
      have h3 : n < 2 ^ k := by omega
      unfold rnd
      rw [Nat.div_eq_of_lt h3, Nat.mod_eq_of_lt h3, if_neg (by omega)]
    rw [small _ (Nat.le_refl _), small d hd']

variable (f : Format)
/-- the place of the last digit that is kept -/
def lastP (n : Nat) (p : Int) : Int := max (p + n.log2 - f.fractionBits) f.leastPlace
/-- the rung nearest to n 2^p -/
def rung (n : Nat) (p : Int) : Nat := if n = 0 then 0 else
  min ((lastP f n p - f.leastPlace).toNat * f.binade + rnd (n * 2 ^ (p - lastP f n p).toNat) (lastP f n p - p).toNat) f.infRung
theorem nearest_eq (s : Bool) (n : Nat) (p : Int) : f.nearest s n p = f.word s (rung f n p) := by
  unfold Format.nearest rung
  by_cases h : n = 0
  · simp [h]
  · rw [if_neg h, if_neg h]
    simp only [cut_even, Nat.shiftLeft_eq, lastP]
theorem log2_scale {n : Nat} (h : n ≠ 0) (k : Nat) : (n * 2 ^ k).log2 = n.log2 + k := by
  have hb := log2_bounds h
  have hp := Nat.two_pow_pos k
  apply (Nat.log2_eq_iff (by have := Nat.mul_pos (Nat.pos_of_ne_zero h) hp; omega)).2
  constructor
  · rw [pow_split]; exact Nat.mul_le_mul_right _ hb.1
  · rw [show n.log2 + k + 1 = n.log2 + 1 + k by omega, pow_split]
    exact Nat.mul_lt_mul_of_pos_right hb.2 hp
theorem rung_scale (n : Nat) (p : Int) (k : Nat) : rung f (n * 2 ^ k) (p - k) = rung f n p := by
  unfold rung
  by_cases h : n = 0
  · simp [h]
  · have hp := Nat.two_pow_pos k
    have h' : n * 2 ^ k ≠ 0 := by have := Nat.mul_pos (Nat.pos_of_ne_zero h) hp; omega
    rw [if_neg h, if_neg h']
    have hl : lastP f (n * 2 ^ k) (p - k) = lastP f n p := by unfold lastP; rw [log2_scale h]; push_cast; congr 1; omega
    rw [hl]
    congr 1
    congr 1
    by_cases hc : lastP f n p ≤ p
    · have e1 : (lastP f n p - p).toNat = 0 := by omega
      rw [e1, rnd_zero]
      by_cases hd : lastP f n p ≤ p - k
      · have e2 : (lastP f n p - (p - k)).toNat = 0 := by omega
        rw [e2, rnd_zero, Nat.mul_assoc, ← pow_split]
        congr 2
        omega
      · have e2 : (p - k - lastP f n p).toNat = 0 := by omega
        rw [e2, Nat.pow_zero, Nat.mul_one]
        have e3 : n * 2 ^ k = n * 2 ^ (p - lastP f n p).toNat * 2 ^ (lastP f n p - (p - k)).toNat := by
          rw [Nat.mul_assoc, ← pow_split]; congr 2; omega
        rw [e3]
        have := rnd_scale (n * 2 ^ (p - lastP f n p).toNat) 0 (lastP f n p - (p - k)).toNat
        rw [Nat.add_zero] at this
        rw [this, rnd_zero]
    · have e1 : (p - lastP f n p).toNat = 0 := by omega
      have e2 : (p - k - lastP f n p).toNat = 0 := by omega
      have e3 : (lastP f n p - (p - k)).toNat = k + (lastP f n p - p).toNat := by omega
      rw [e1, e2, e3, Nat.pow_zero, Nat.mul_one, Nat.mul_one, rnd_scale]

/-! a number cut short -/
/-- n without its last j bits; that one of them is 1 is told by the last one left -/
def jam (n j : Nat) : Nat := if n % 2 ^ j = 0 then n / 2 ^ j else 2 * (n / 2 ^ j / 2) + 1
theorem jam_zero (n : Nat) : jam n 0 = n := by unfold jam; simp [Nat.mod_one]
theorem jam_div (n j : Nat) : jam n j / 2 = n / 2 ^ j / 2 := by
  unfold jam
  split
  · rfl
  · omega
theorem rnd_jam (n j e : Nat) (he : 2 ≤ e) : rnd (jam n j) e = rnd n (j + e) := by
  obtain ⟨e, rfl⟩ : ∃ e', e = e' + 2 := ⟨e - 2, by omega⟩
  have hj := Nat.two_pow_pos j
  have hE := Nat.two_pow_pos e
  have p2 : 2 ^ (e + 2) = 4 * 2 ^ e := by rw [Nat.pow_succ, Nat.pow_succ]; omega
  unfold rnd
  rw [mod_pow_add n j (e + 2), div_pow_add n j (e + 2), pow_split j (e + 2)]
  unfold jam
  have hr := Nat.mod_lt n hj
  split
  · rename_i h0
    rw [h0, Nat.add_zero]
    have h1 : (2 ^ j * 2 ^ (e + 2) < 2 * (n / 2 ^ j % 2 ^ (e + 2) * 2 ^ j)) ↔ 2 ^ (e + 2) < 2 * (n / 2 ^ j % 2 ^ (e + 2)) := by
      rw [Nat.mul_comm (2 ^ j), ← Nat.mul_assoc]
      exact Nat.mul_lt_mul_right hj
    have h2 : (2 ^ j * 2 ^ (e + 2) = 2 * (n / 2 ^ j % 2 ^ (e + 2) * 2 ^ j)) ↔ 2 ^ (e + 2) = 2 * (n / 2 ^ j % 2 ^ (e + 2)) := by
      rw [Nat.mul_comm (2 ^ j), ← Nat.mul_assoc]
      exact Nat.mul_left_inj (Nat.pos_iff_ne_zero.1 hj)
    simp only [Nat.add_zero, h1, h2]
  · rename_i h0
    generalize hq : n / 2 ^ j = q
    generalize hrr : n % 2 ^ j = r at *
    have hdiv : (2 * (q / 2) + 1) / 2 ^ (e + 2) = q / 2 ^ (e + 2) := by
      have h1 : ∀ x : Nat, x / 2 ^ (e + 2) = x / 2 / 2 ^ (e + 1) := fun x => by
        rw [Nat.div_div_eq_div_mul, Nat.pow_succ, Nat.mul_comm]
      rw [h1, h1 q]
      congr 1
      omega
    have hmod : (2 * (q / 2) + 1) % 2 ^ (e + 2) = 2 * (q % 2 ^ (e + 2) / 2) + 1 := by
      have e1 : 2 ^ (e + 2) = 2 * 2 ^ (e + 1) := by rw [Nat.pow_succ]; omega
      have hx : (2 * (q / 2) + 1) / 2 = q / 2 := by omega
      rw [e1, Nat.mod_mul, Nat.mod_mul, hx]
      omega
    rw [hdiv, hmod]
    have hQ : q % 2 ^ (e + 2) < 2 ^ (e + 2) := Nat.mod_lt _ (Nat.two_pow_pos _)
    generalize q % 2 ^ (e + 2) = Q at *
    rw [p2] at hQ ⊢
    have c1 : (4 * 2 ^ e < 2 * (2 * (Q / 2) + 1) ∨ 4 * 2 ^ e = 2 * (2 * (Q / 2) + 1) ∧ q / (4 * 2 ^ e) % 2 = 1) ↔ 2 * 2 ^ e ≤ Q := by omega
    have c2 : (2 ^ j * (4 * 2 ^ e) < 2 * (Q * 2 ^ j + r) ∨ 2 ^ j * (4 * 2 ^ e) = 2 * (Q * 2 ^ j + r) ∧ q / (4 * 2 ^ e) % 2 = 1) ↔ 2 * 2 ^ e ≤ Q := by
      have hm : ∀ x y : Nat, x ≤ y → x * 2 ^ j ≤ y * 2 ^ j := fun x y h => Nat.mul_le_mul_right _ h
      have e3 : 2 ^ j * (4 * 2 ^ e) = 2 * ((2 * 2 ^ e) * 2 ^ j) := by
        rw [Nat.mul_comm (2 ^ j), show 4 * 2 ^ e = 2 * (2 * 2 ^ e) by omega, Nat.mul_assoc]
      rw [e3]
      constructor
      · intro h
        by_cases hq : 2 * 2 ^ e ≤ Q
        · exact hq
        · have := hm (Q + 1) (2 * 2 ^ e) (by omega)
          rw [Nat.add_mul, Nat.one_mul] at this
          omega
      · intro h
        have := hm _ _ h
        left
        omega
    simp only [c1, c2]
theorem jam_log2 {n j : Nat} (h : 2 ≤ n / 2 ^ j) : (jam n j).log2 = (n / 2 ^ j).log2 := by
  generalize hq : n / 2 ^ j = q at *
  have hq0 : q ≠ 0 := by omega
  have hb := log2_bounds hq0
  have hl : 1 ≤ q.log2 := by
    rcases Nat.eq_zero_or_pos q.log2 with h0 | h0
    · rw [h0] at hb; simp at hb; omega
    · exact h0
  obtain ⟨l, hl'⟩ : ∃ l, q.log2 = l + 1 := ⟨q.log2 - 1, by omega⟩
  rw [hl'] at hb ⊢
  rw [Nat.pow_succ, Nat.pow_succ] at hb
  unfold jam
  rw [hq]
  split
  · exact hl'
  · refine (Nat.log2_eq_iff (by omega)).2 ⟨?_, ?_⟩
    · rw [Nat.pow_succ]; omega
    · rw [Nat.pow_succ, Nat.pow_succ]; omega
theorem div_log2 {n j : Nat} (h : n / 2 ^ j ≠ 0) : n.log2 = (n / 2 ^ j).log2 + j := by
  have hb := log2_bounds h
  have hp := Nat.two_pow_pos j
  have hn : n ≠ 0 := by intro e; rw [e] at h; simp at h
  refine (Nat.log2_eq_iff hn).2 ⟨?_, ?_⟩
  · rw [pow_split]
    exact (Nat.le_div_iff_mul_le hp).1 hb.1
  · rw [show (n / 2 ^ j).log2 + j + 1 = (n / 2 ^ j).log2 + 1 + j by omega, pow_split]
    exact (Nat.div_lt_iff_lt_mul hp).1 hb.2
theorem jam_ne {n j : Nat} (h : n ≠ 0) : jam n j ≠ 0 := by
  unfold jam
  split
  · rename_i h0
    intro e
    have := Nat.div_add_mod n (2 ^ j)
    rw [e, h0] at this
    simp at this
    omega
  · omega
/-- THE STICKY LAW: a number that is cut short to two bits and more beyond what is kept, what is lost told, rounds alike. -/
theorem rung_jam (n j : Nat) (p : Int) (h : 2 ^ (f.fractionBits + 2) ≤ n / 2 ^ j) : rung f (jam n j) (p + j) = rung f n p := by
  have hp2 : 4 ≤ 2 ^ (f.fractionBits + 2) := by
    have := Nat.two_pow_pos f.fractionBits
    rw [Nat.pow_succ, Nat.pow_succ]; omega
  have hq0 : n / 2 ^ j ≠ 0 := by omega
  have hn : n ≠ 0 := by intro e; rw [e] at hq0; simp at hq0
  have hl : f.fractionBits + 2 ≤ (n / 2 ^ j).log2 := (Nat.le_log2 hq0).2 h
  unfold rung
  rw [if_neg hn, if_neg (jam_ne hn)]
  have e1 : lastP f (jam n j) (p + j) = lastP f n p := by
    unfold lastP
    rw [jam_log2 (by omega), div_log2 hq0]
    push_cast
    congr 1
    omega
  rw [e1]
  have hlast : p + j + 2 ≤ lastP f n p := by
    have := Int.le_max_left (p + n.log2 - f.fractionBits) f.leastPlace
    unfold lastP
    rw [div_log2 hq0] at this ⊢
    push_cast at this ⊢
    omega
  have e2 : (p + j - lastP f n p).toNat = 0 := by omega
  have e3 : (p - lastP f n p).toNat = 0 := by omega
  have e4 : (lastP f n p - p).toNat = j + (lastP f n p - (p + j)).toNat := by omega
  rw [e2, e3, e4, Nat.pow_zero, Nat.mul_one, Nat.mul_one, rnd_jam _ _ _ (by omega)]


/-! what a word stands for -/
/-- a rung's size, in units of the least place -/
def units (r : Nat) : Nat := if r < f.binade then r else (f.binade + r % f.binade) * 2 ^ (r / f.binade - 1)
def magOf (r : Nat) : Nat := if r < f.binade then r else f.binade + r % f.binade
def placeOf (r : Nat) : Int := f.leastPlace + (if r < f.binade then 0 else (r / f.binade - 1 : Nat) : Nat)
def negOf (w : Nat) : Bool := w / f.signWeight % 2 == 1
def rungOf (w : Nat) : Nat := w % f.signWeight
theorem binade_pos : 0 < f.binade := Nat.two_pow_pos _
theorem inf_ge (he : 2 ≤ f.exponentBits) : f.binade ≤ f.infRung := by
  have : 2 ^ 2 ≤ 2 ^ f.exponentBits := Nat.pow_le_pow_right (by decide) he
  unfold Format.infRung
  exact Nat.le_mul_of_pos_left _ (by omega)
theorem read_number (_he : 2 ≤ f.exponentBits) {w : Nat} (h : rungOf f w < f.infRung) : f.read w = .number (negOf f w) (magOf f (rungOf f w)) (placeOf f (rungOf f w)) := by
  unfold Format.read magOf placeOf negOf rungOf at *
  simp only
  split
  · simp
  · first | rfl | rw [if_pos h]
theorem read_inf (he : 2 ≤ f.exponentBits) {w : Nat} (h : rungOf f w = f.infRung) : f.read w = .infinity (negOf f w) := by
  have := inf_ge f he
  unfold Format.read negOf rungOf at *
  simp only
  rw [if_neg (by omega), if_neg (by omega), if_pos h]
theorem read_nan (he : 2 ≤ f.exponentBits) {w : Nat} (h : f.infRung < rungOf f w) : f.read w = .nan (negOf f w) (rungOf f w - f.infRung) := by
  have := inf_ge f he
  unfold Format.read negOf rungOf at *
  simp only
  rw [if_neg (by omega), if_neg (by omega), if_neg (by omega)]
theorem units_eq (r : Nat) : units f r = magOf f r * 2 ^ (placeOf f r - f.leastPlace).toNat := by
  unfold units magOf placeOf
  split
  · simp
  · congr 2
    omega
theorem place_ge (r : Nat) : f.leastPlace ≤ placeOf f r := by unfold placeOf; omega
theorem units_succ (r : Nat) : units f r < units f (r + 1) := by
  have hB := binade_pos f
  unfold units
  generalize f.binade = B at *
  by_cases h1 : r + 1 < B
  · rw [if_pos h1, if_pos (by omega)]; omega
  · rw [if_neg h1]
    by_cases h2 : r < B
    · have : r + 1 = B := by omega
      rw [if_pos h2, this, Nat.mod_self, Nat.div_self hB]
      simp
      omega
    · rw [if_neg h2]
      have hd := Nat.div_add_mod r B
      have hm := Nat.mod_lt r hB
      have hq : 1 ≤ r / B := (Nat.one_le_div_iff hB).2 (by omega)
      generalize r / B = q at *
      generalize r % B = t at *
      subst hd
      obtain ⟨q, rfl⟩ : ∃ q', q = q' + 1 := ⟨q - 1, by omega⟩
      have hp := Nat.two_pow_pos q
      by_cases h3 : t + 1 < B
      · have e1 : (B * (q + 1) + t + 1) % B = t + 1 := by
          rw [Nat.add_assoc, Nat.mul_add_mod, Nat.mod_eq_of_lt h3]
        have e2 : (B * (q + 1) + t + 1) / B = q + 1 := by
          rw [Nat.add_assoc, Nat.mul_add_div hB, Nat.div_eq_of_lt h3, Nat.add_zero]
        rw [e1, e2]
        exact Nat.mul_lt_mul_of_pos_right (by omega) hp
      · have ht : t + 1 = B := by omega
        have e0 : B * (q + 1) + t + 1 = B * (q + 2) := by rw [Nat.mul_add, Nat.mul_add]; omega
        rw [e0, Nat.mul_mod_right, Nat.mul_div_cancel_left _ hB]
        have e3 : q + 2 - 1 = q + 1 := rfl
        have e4 : q + 1 - 1 = q := rfl
        rw [e3, e4, Nat.pow_succ, Nat.add_zero, Nat.mul_comm (2 ^ q), ← Nat.mul_assoc]
        exact Nat.mul_lt_mul_of_pos_right (by omega) hp
theorem units_lt {r s : Nat} (h : r < s) : units f r < units f s := by
  induction s with
  | zero => omega
  | succ s ih =>
    rcases Nat.lt_succ_iff_lt_or_eq.1 h with h' | rfl
    · exact Nat.lt_trans (ih h') (units_succ f s)
    · exact units_succ f r
theorem units_lt_iff {r s : Nat} : units f r < units f s ↔ r < s := by
  constructor
  · intro h
    rcases Nat.lt_or_ge r s with h' | h'
    · exact h'
    · rcases Nat.lt_or_eq_of_le h' with h2 | h2
      · have := units_lt f h2; omega
      · rw [h2] at h; omega
  · exact units_lt f
theorem units_inj {r s : Nat} (h : units f r = units f s) : r = s := by
  rcases Nat.lt_trichotomy r s with h' | h' | h'
  · have := units_lt f h'; omega
  · exact h'
  · have := units_lt f h'; omega
theorem units_zero : units f 0 = 0 := by unfold units; rw [if_pos (binade_pos f)]
/-- a number that the format has is met exactly -/
theorem units_rung {n : Nat} {p : Int} (hn : n < 2 ^ (f.fractionBits + 1)) (hp : f.leastPlace ≤ p) (ho : rung f n p < f.infRung) : units f (rung f n p) = n * 2 ^ (p - f.leastPlace).toNat := by
  unfold rung at ho ⊢
  by_cases h0 : n = 0
  · rw [if_pos h0, h0, units_zero, Nat.zero_mul]
  · rw [if_neg h0] at ho ⊢
    have hl : n.log2 < f.fractionBits + 1 := (Nat.log2_lt h0).2 hn
    have hb := log2_bounds h0
    have hlast : lastP f n p ≤ p := by unfold lastP; omega
    have hge : f.leastPlace ≤ lastP f n p := Int.le_max_right ..
    have e1 : (lastP f n p - p).toNat = 0 := by omega
    rw [e1, rnd_zero] at ho ⊢
    rw [Nat.min_eq_left (by omega)]
    have hB : f.binade = 2 ^ f.fractionBits := rfl
    have hBp := binade_pos f
    have hp2 := Nat.two_pow_pos (p - lastP f n p).toNat
    have hk : n * 2 ^ (p - lastP f n p).toNat < 2 * f.binade := by
      have h1 : n * 2 ^ (p - lastP f n p).toNat < 2 ^ (n.log2 + 1) * 2 ^ (p - lastP f n p).toNat := Nat.mul_lt_mul_of_pos_right hb.2 hp2
      rw [← pow_split] at h1
      have h2 : n.log2 + 1 + (p - lastP f n p).toNat ≤ f.fractionBits + 1 := by
        have : p + n.log2 - f.fractionBits ≤ lastP f n p := Int.le_max_left ..
        omega
      have h3 : 2 ^ (n.log2 + 1 + (p - lastP f n p).toNat) ≤ 2 ^ (f.fractionBits + 1) := Nat.pow_le_pow_right (by decide) h2
      rw [Nat.pow_succ 2 f.fractionBits] at h3
      omega
    have e2 : n * 2 ^ (p - f.leastPlace).toNat = n * 2 ^ (p - lastP f n p).toNat * 2 ^ (lastP f n p - f.leastPlace).toNat := by
      rw [Nat.mul_assoc, ← pow_split]; congr 2; omega
    rw [e2]
    by_cases hc : lastP f n p = f.leastPlace
    · have e3 : (lastP f n p - f.leastPlace).toNat = 0 := by omega
      rw [e3, Nat.zero_mul, Nat.zero_add, Nat.pow_zero, Nat.mul_one]
      generalize n * 2 ^ (p - lastP f n p).toNat = K at *
      unfold units
      split
      · rfl
      · have e4 : K % f.binade = K - f.binade := by rw [Nat.mod_eq_sub_mod (by omega), Nat.mod_eq_of_lt (by omega)]
        have e5 : K / f.binade = 1 := Nat.div_eq_of_lt_le (by omega) (by omega)
        rw [e4, e5]
        simp
        omega
    · have hlow : f.binade ≤ n * 2 ^ (p - lastP f n p).toNat := by
        have h1 : 2 ^ n.log2 * 2 ^ (p - lastP f n p).toNat ≤ n * 2 ^ (p - lastP f n p).toNat := Nat.mul_le_mul_right _ hb.1
        rw [← pow_split] at h1
        have h2 : n.log2 + (p - lastP f n p).toNat = f.fractionBits := by
          have : lastP f n p = p + n.log2 - f.fractionBits := by
            unfold lastP at hc ⊢
            omega
          omega
        rw [h2] at h1
        exact h1
      generalize hK : n * 2 ^ (p - lastP f n p).toNat = K at *
      generalize hL : (lastP f n p - f.leastPlace).toNat = L at *
      have e6 : L * f.binade + K = f.binade * (L + 1) + (K - f.binade) := by
        rw [Nat.mul_add, Nat.mul_comm f.binade L]; omega
      rw [e6]
      unfold units
      have hge2 : f.binade ≤ f.binade * (L + 1) := Nat.le_mul_of_pos_right _ (by omega)
      rw [if_neg (by omega), Nat.mul_add_mod, Nat.mod_eq_of_lt (by omega), Nat.mul_add_div hBp, Nat.div_eq_of_lt (by omega)]
      rw [show f.binade + (K - f.binade) = K by omega, show L + 1 + 0 - 1 = L by omega]

/-! order -/
/-- a word's size with its sign, in units of the least place -/
def sgU (w : Nat) : Int := if negOf f w then -(units f (rungOf f w) : Int) else (units f (rungOf f w) : Int)
theorem compare_scale (a b : Int) (k : Nat) : compare (a * 2 ^ k) (b * 2 ^ k) = compare a b := by
  have hp : (0 : Int) < 2 ^ k := Int.pow_pos (by decide)
  have h1 : a * 2 ^ k < b * 2 ^ k ↔ a < b := ⟨fun h => Int.lt_of_mul_lt_mul_right h (Int.le_of_lt hp), fun h => Int.mul_lt_mul_of_pos_right h hp⟩
  have h2 : b * 2 ^ k < a * 2 ^ k ↔ b < a := ⟨fun h => Int.lt_of_mul_lt_mul_right h (Int.le_of_lt hp), fun h => Int.mul_lt_mul_of_pos_right h hp⟩
  rcases Int.lt_trichotomy a b with h | h | h
  · rw [Int.compare_eq_lt.2 h, Int.compare_eq_lt.2 (h1.2 h)]
  · subst h; rw [Int.compare_eq_eq.2 rfl, Int.compare_eq_eq.2 rfl]
  · rw [Int.compare_eq_gt.2 h, Int.compare_eq_gt.2 (h2.2 h)]
theorem signed_eq (s : Bool) (m u : Nat) : Ieee.signed s m u = (if s then -((m : Int) * 2 ^ u) else (m : Int) * 2 ^ u) := by
  unfold Ieee.signed
  rw [Nat.shiftLeft_eq]
  push_cast
  rfl
/-- two numbers stand as their sizes, taken at any place below both -/
theorem order_at (s t : Bool) (m n : Nat) (i j L : Int) (hi : L ≤ i) (hj : L ≤ j) :
    (Datum.number s m i).order (.number t n j) = some (compare (Ieee.signed s m (i - L).toNat) (Ieee.signed t n (j - L).toNat)) := by
  have e : ∀ (s : Bool) (m : Nat) (k : Int), min i j ≤ k → Ieee.signed s m (k - L).toNat = Ieee.signed s m (k - min i j).toNat * 2 ^ (min i j - L).toNat := by
    intro s m k hk
    rw [signed_eq, signed_eq]
    have : (2 : Int) ^ (k - L).toNat = 2 ^ (k - min i j).toNat * 2 ^ (min i j - L).toNat := by
      rw [← Int.pow_add]; congr 1; omega
    rw [this]
    cases s <;> simp [Int.mul_assoc, Int.neg_mul]
  simp only [Datum.order]
  rw [e s m i (by omega), e t n j (by omega), compare_scale]
theorem sgU_eq (w : Nat) : sgU f w = Ieee.signed (negOf f w) (magOf f (rungOf f w)) (placeOf f (rungOf f w) - f.leastPlace).toNat := by
  unfold sgU
  rw [signed_eq, units_eq]
  push_cast
  rfl
theorem order_finite (he : 2 ≤ f.exponentBits) {a b : Nat} (ha : rungOf f a < f.infRung) (hb : rungOf f b < f.infRung) : f.order a b = some (compare (sgU f a) (sgU f b)) := by
  unfold Format.order
  rw [read_number f he ha, read_number f he hb, order_at _ _ _ _ _ _ f.leastPlace (place_ge f _) (place_ge f _), sgU_eq, sgU_eq]
theorem order_nan (he : 2 ≤ f.exponentBits) {a b : Nat} (h : f.infRung < rungOf f a ∨ f.infRung < rungOf f b) : f.order a b = none := by
  unfold Format.order
  rcases h with h | h
  · rw [read_nan f he h]; rfl
  · rw [read_nan f he h]; cases f.read a <;> rfl
/-- no NaN: they stand as their sizes with their signs -/
theorem order_eq (he : 2 ≤ f.exponentBits) {a b : Nat} (ha : rungOf f a ≤ f.infRung) (hb : rungOf f b ≤ f.infRung) : f.order a b = some (compare (sgU f a) (sgU f b)) := by
  have hpos : ∀ w, rungOf f w = f.infRung → 0 < units f (rungOf f w) := fun w h => by
    have := units_lt f (show 0 < rungOf f w by have := inf_ge f he; have := binade_pos f; omega)
    omega
  have hlt : ∀ v w, rungOf f v < f.infRung → rungOf f w = f.infRung → units f (rungOf f v) < units f (rungOf f w) := fun v w h1 h2 => units_lt f (by omega)
  rcases Nat.lt_or_eq_of_le ha with ha' | ha' <;> rcases Nat.lt_or_eq_of_le hb with hb' | hb'
  · exact order_finite f he ha' hb'
  · have h1 := hlt a b ha' hb'
    unfold Format.order
    rw [read_number f he ha', read_inf f he hb']
    simp only [Datum.order]
    unfold sgU
    have h2 := hpos b hb'
    cases negOf f b
    · rw [Int.compare_eq_lt.2]; rfl
      cases negOf f a <;> simp <;> omega
    · rw [Int.compare_eq_gt.2]; rfl
      cases negOf f a <;> simp <;> omega
  · have h1 := hlt b a hb' ha'
    unfold Format.order
    rw [read_number f he hb', read_inf f he ha']
    simp only [Datum.order]
    unfold sgU
    have h2 := hpos a ha'
    cases negOf f a
    · rw [Int.compare_eq_gt.2]; rfl
      cases negOf f b <;> simp <;> omega
    · rw [Int.compare_eq_lt.2]; rfl
      cases negOf f b <;> simp <;> omega
  · unfold Format.order
    rw [read_inf f he ha', read_inf f he hb']
    simp only [Datum.order]
    unfold sgU
    have h2 := hpos a ha'
    rw [ha'] at h2
    rw [ha', hb']
    cases negOf f a <;> cases negOf f b <;> simp only [Bool.toNat_true, Bool.toNat_false]
    · rw [Int.compare_eq_eq.2 (by simp)]; rfl
    · rw [Int.compare_eq_gt.2 (by simp; omega)]; rfl
    · rw [Int.compare_eq_lt.2 (by simp; omega)]; rfl
    · rw [Int.compare_eq_eq.2 (by simp)]; rfl

end Fx
end Go.Proofs.YtfdggebddcoeeaaGreatDoor
