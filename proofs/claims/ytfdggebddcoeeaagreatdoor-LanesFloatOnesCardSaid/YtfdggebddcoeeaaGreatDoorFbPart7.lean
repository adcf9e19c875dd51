/-
  A part of the proof.
-/
import Derived.Test.YtfdggebddcoeeaaGreatDoorFbPb
import Derived.Test.YtfdggebddcoeeaaGreatDoorFbPart3
set_option linter.unusedVariables false
set_option linter.unusedSimpArgs false
/-
  The program's two floats: it comes to what the names say, whole.
-/
set_option maxRecDepth 100000
noncomputable section
namespace Go.Proofs.YtfdggebddcoeeaaGreatDoor
namespace Sx
open Go Go.RowKit

theorem mem_lt {n : Nat} (hn : n = 32 ∨ n = 64) : n ∈ [32, 64] := by rcases hn with rfl | rfl <;> decide
theorem memB (x : Bool) : x ∈ [false, true] := by cases x <;> decide
theorem nan_le {n a : Nat} (hn : n = 32 ∨ n = 64) (h : Fx.isNaN (fmtOf n) a = false) : rgI n a ≤ infR n := by
  have h1 := of_decide_eq_false h
  rw [rung_rg n a hn, (fmt_nums hn).2.2.2] at h1
  omega
theorem width_n {n : Nat} (hn : n = 32 ∨ n = 64) : (fmtOf n).width = n := by rcases hn with rfl | rfl <;> rfl
theorem nanW_lt {n : Nat} (hn : n = 32 ∨ n = 64) : nanW n < 2 ^ n := by rcases hn with rfl | rfl <;> decide
theorem bits_lt {n : Nat} (hn : n = 32 ∨ n = 64) (op : BinOp) (a b : Nat) : (floatBits op (kindF n) a b).getD (nanW n) < 2 ^ n := by
  cases h : floatBits op (kindF n) a b with
  | none => exact nanW_lt hn
  | some r =>
    show r < 2 ^ n
    unfold floatBits at h
    rw [kind_fmt] at h
    rw [← width_n hn]
    split at h
    · exact (fmtOf n).add_lt h
    · exact (fmtOf n).sub_lt h
    · exact (fmtOf n).mul_lt h
    · exact (fmtOf n).div_lt h
    · cases h
theorem neg_bit {n : Nat} (hn : n = 32 ∨ n = 64) (b : Nat) : Fx.negOf (fmtOf n) b = b.testBit (n - 1) := by
  unfold Fx.negOf
  rw [fmt_sign hn, Nat.testBit_eq_decide_div_mod_eq]
  by_cases h : b / 2 ^ (n - 1) % 2 = 1
  · rw [h, decide_eq_true rfl]; rfl
  · rw [decide_eq_false h, beq_eq_false_iff_ne]; exact h
theorem flip_lt {n : Nat} (hn : n = 32 ∨ n = 64) (b : Nat) : Fx.flip (fmtOf n) b < 2 ^ n := by
  have h := Fx.rung_lt_sign (fmtOf n) b
  rw [fmt_sign hn] at h
  have h2 : 2 ^ n = 2 * 2 ^ (n - 1) := by rcases hn with rfl | rfl <;> decide
  unfold Fx.flip Ieee.Format.word
  rw [fmt_sign hn]
  split <;> omega
theorem flip_xor {n : Nat} (hn : n = 32 ∨ n = 64) {b : Nat} (hb : b < 2 ^ n) : bitsI .xor .u64 (b : Int) ((2 ^ (n - 1) : Nat) : Int) = (Fx.flip (fmtOf n) b : Nat) := by
  have hf := flip_lt hn b
  have h64 : 2 ^ n ≤ 2 ^ 64 := Nat.pow_le_pow_right (by decide) (by omega)
  have hk : n - 1 < 64 := by omega
  refine eq_of_bits 64 (bitsI_range (k := .u64) rfl _ _) ⟨by omega, by omega⟩ fun i hi => ?_
  rw [ibit_xor (k := .u64) rfl _ _ hi, ibit_nat, ibit_nat, ibit_nat, Nat.testBit_two_pow]
  have hr : Fx.rungOf (fmtOf n) b = b % 2 ^ (n - 1) := by unfold Fx.rungOf; rw [fmt_sign hn]
  have hbit : (Fx.flip (fmtOf n) b).testBit i = (b.testBit i != decide (n - 1 = i)) := by
    unfold Fx.flip Ieee.Format.word
    rw [fmt_sign hn, hr, neg_bit hn]
    rcases Nat.lt_trichotomy i (n - 1) with h | h | h
    · rw [decide_eq_false (by omega)]
      cases hs : b.testBit (n - 1)
      · simp only [Bool.not_false, if_true]
        rw [Nat.testBit_two_pow_add_gt h, Nat.testBit_mod_two_pow, decide_eq_true h]
        simp
      · simp only [Bool.not_true, Bool.false_eq_true, if_false]
        rw [Nat.testBit_mod_two_pow, decide_eq_true h]
        simp
    · subst h
      rw [decide_eq_true rfl]
      cases hs : b.testBit (n - 1)
      · simp only [Bool.not_false, if_true]
        rw [Nat.testBit_two_pow_add_eq, Nat.testBit_mod_two_pow, decide_eq_false (by omega)]
        rfl
      · simp only [Bool.not_true, Bool.false_eq_true, if_false]
        rw [Nat.testBit_mod_two_pow, decide_eq_false (by omega)]
        rfl
    · rw [decide_eq_false (by omega)]
      have hbi : b.testBit i = false := Nat.testBit_lt_two_pow (Nat.lt_of_lt_of_le hb (Nat.pow_le_pow_right (by decide) (by omega)))
      rw [hbi]
      have hle : 2 ^ n ≤ 2 ^ i := Nat.pow_le_pow_right (by decide) (by omega)
      have h2 : 2 ^ n = 2 * 2 ^ (n - 1) := by rcases hn with rfl | rfl <;> decide
      have hm := Nat.mod_lt b (Nat.two_pow_pos (n - 1))
      refine Nat.testBit_lt_two_pow ?_
      split <;> omega
  rw [hbit]
  by_cases h : n - 1 = i
  · cases b.testBit i <;> simp [h]
  · cases b.testBit i <;> simp [h]
theorem nanK_ok {n : Nat} (hn : n = 32 ∨ n = 64) {x y : Int} {z r : Nat} {ka kb : Bool} (ha : ka = Fx.isNaN (fmtOf n) (wordOf n x)) (hb : kb = Fx.isNaN (fmtOf n) (wordOf n y)) : ∀ p ∈ nanK n ka kb, p.1.den (EG (vaB x y z r)) = p.2.den (EG (vaB x y z r)) := by
  intro p hp
  simp only [nanK, List.mem_cons, List.not_mem_nil, or_false] at hp
  rcases hp with rfl | rfl
  · exact bnan_den hn (word_lt x) bA_den ha
  · exact bnan_den hn (word_lt y) bB_den hb
theorem nan_cases {ka kb : Bool} (h : (ka || kb) = true) : (ka, kb) ∈ [(true, true), (true, false), (false, true)] := by
  cases ka <;> cases kb <;> first | decide | cases h
theorem pbin_nan {n op : Nat} (hn : n = 32 ∨ n = 64) (hop : op ∈ [1, 2, 3, 4, 5, 6]) {x y : Int} (hx : inR .u64 x) (hy : inR .u64 y) (h : nan2 n (wordOf n x) (wordOf n y) = true) (w : World) :
    CX Tryz.prog 104 #[.int .i64 n, .int .i64 op, .int .u64 x, .int .u64 y] w (fun u w' => u = .tuple #[.int .u64 (nanW n : Nat), .int .i64 0] ∧ Below w.heap.size w w') := by
  have ho : op < 100 := by
    simp only [List.mem_cons, List.not_mem_nil, or_false] at hop
    omega
  exact runB (z := 0) (r := 0) hn ho sumsG_ok (List.all_eq_true.1 (List.all_eq_true.1 (List.all_eq_true.1 pb_nan n (mem_lt hn)) op hop) (Fx.isNaN (fmtOf n) (wordOf n x), Fx.isNaN (fmtOf n) (wordOf n y)) (nan_cases h)) (nanK_ok hn rfl rfl) hx hy w
theorem pbin_nanP {n op : Nat} (hn : n = 32 ∨ n = 64) (hop : op ∈ [8, 9]) {x y : Int} (hx : inR .u64 x) (hy : inR .u64 y) (h : nan2 n (wordOf n x) (wordOf n y) = true) (w : World) :
    CX Tryz.prog 104 #[.int .i64 n, .int .i64 op, .int .u64 x, .int .u64 y] w (fun u w' => u = .tuple #[.int .u64 (wordOf n x : Nat), .int .i64 0] ∧ Below w.heap.size w w') := by
  have ho : op < 100 := by
    simp only [List.mem_cons, List.not_mem_nil, or_false] at hop
    omega
  refine cx_mono (runB (z := 0) (r := 0) hn ho sumsG_ok (List.all_eq_true.1 (List.all_eq_true.1 (List.all_eq_true.1 pb_nanP n (mem_lt hn)) op hop) (Fx.isNaN (fmtOf n) (wordOf n x), Fx.isNaN (fmtOf n) (wordOf n y)) (nan_cases h)) (nanK_ok hn rfl rfl) hx hy w) fun u w' ⟨h1, h2⟩ => ⟨?_, h2⟩
  rw [h1, bA_den]
theorem bits_of1 (n a b : Nat) : floatBits (opB 1) (kindF n) a b = (fmtOf n).add a b := by
  show (kindF n).format.add a b = _
  rw [kind_fmt]
theorem bits_of2 (n a b : Nat) : floatBits (opB 2) (kindF n) a b = (fmtOf n).sub a b := by
  show (kindF n).format.sub a b = _
  rw [kind_fmt]
theorem bits_of3 (n a b : Nat) : floatBits (opB 3) (kindF n) a b = (fmtOf n).mul a b := by
  show (kindF n).format.mul a b = _
  rw [kind_fmt]
theorem bits_of4 (n a b : Nat) : floatBits (opB 4) (kindF n) a b = (fmtOf n).div a b := by
  show (kindF n).format.div a b = _
  rw [kind_fmt]
theorem ar_cx {n op : Nat} (hn : n = 32 ∨ n = 64) (hop : op ∈ [1, 2, 3, 4]) {a b : Nat} (ha : a < 2 ^ n) (hb : b < 2 ^ n) (na : Fx.isNaN (fmtOf n) a = false) (nb : Fx.isNaN (fmtOf n) b = false) (w : World) :
    CX Tryz.prog (gOf op) #[fmtVal n, .int .u64 (a : Int), .int .u64 ((cond (isSub op) (Fx.flip (fmtOf n) b) b : Nat) : Int)] w (fun u w' => u = .int .u64 ((floatBits (opB op) (kindF n) a b).getD (nanW n) : Nat) ∧ Below w.heap.size w w') := by
  have la := nan_le hn na
  have lb := nan_le hn nb
  simp only [List.mem_cons, List.not_mem_nil, or_false] at hop
  rcases hop with rfl | rfl | rfl | rfl
  · rw [bits_of1]
    exact add_full hn ha hb la lb w
  · have hbl : Fx.rungOf (fmtOf n) b ≤ (fmtOf n).infRung := by rw [rung_rg n b hn, (fmt_nums hn).2.2.2]; exact lb
    have hfl : rgI n (Fx.flip (fmtOf n) b) ≤ infR n := by rw [← rung_rg n _ hn, Fx.flip_rung, rung_rg n b hn]; exact lb
    have e := Fx.sub_flip (fmtOf n) fmt_exp (a := a) hbl
    rw [bits_of2]
    show CX Tryz.prog 155 #[fmtVal n, .int .u64 (a : Int), .int .u64 ((Fx.flip (fmtOf n) b : Nat) : Int)] w (fun u w' => u = .int .u64 (((fmtOf n).sub a b).getD (nanW n) : Nat) ∧ Below w.heap.size w w')
    rw [e]
    exact add_full hn ha (flip_lt hn b) la hfl w
  · rw [bits_of3]
    exact mul_full hn ha hb la lb w
  · rw [bits_of4]
    exact div_full hn ha hb la lb w
theorem pbin_ar {n op : Nat} (hn : n = 32 ∨ n = 64) (hop : op ∈ [1, 2, 3, 4]) : LeafFB 104 n op := fun x y hx hy w => by
  have ho : op < 100 := by
    simp only [List.mem_cons, List.not_mem_nil, or_false] at hop
    omega
  have hFB : FB n op x y = (arN n op (wordOf n x) (wordOf n y) : Nat) := by
    simp only [List.mem_cons, List.not_mem_nil, or_false] at hop
    rcases hop with rfl | rfl | rfl | rfl <;> rfl
  rw [hFB]
  unfold arN
  cases hnan : nan2 n (wordOf n x) (wordOf n y)
  · obtain ⟨na, nb⟩ := Bool.or_eq_false_iff.1 hnan
    simp only [cond_false]
    have hc := ar_cx hn hop (word_lt x) (word_lt y) na nb
    have hrl := bits_lt hn (opB op) (wordOf n x) (wordOf n y)
    generalize (floatBits (opB op) (kindF n) (wordOf n x) (wordOf n y)).getD (nanW n) = r at *
    have hfl := flip_lt hn (wordOf n y)
    have hY : (yOf n op).den (EG (vaB x y (Fx.flip (fmtOf n) (wordOf n y)) r)) = (cond (isSub op) (Fx.flip (fmtOf n) (wordOf n y)) (wordOf n y) : Nat) := by
      unfold yOf
      cases isSub op
      · exact bB_den
      · exact bz_den hfl
    refine cx_mono (runB (z := Fx.flip (fmtOf n) (wordOf n y)) (r := r) hn ho (sumsG_add (smAr_ok hn bA_den hY (br_den hrl) hrl hc)) (List.all_eq_true.1 (List.all_eq_true.1 pb_ar n (mem_lt hn)) op hop) ?_ hx hy w) fun u w' ⟨h1, h2⟩ => ⟨?_, h2⟩
    · intro p hp
      rcases List.mem_append.1 hp with hp | hp
      · exact nanK_ok hn na.symm nb.symm p hp
      · cases hs : isSub op
        · rw [hs] at hp; cases hp
        · rw [hs] at hp
          simp only [cond_true, List.mem_cons, List.not_mem_nil, or_false] at hp
          subst hp
          show (mkBit .xor .u64 (wB n) (.lit (.ofNat (2 ^ (n - 1))))).den _ = (w2 n).den _
          rw [mkBit_den, bB_den, bz_den hfl]
          exact flip_xor hn (word_lt y)
    · rw [h1, br_den hrl]
  · simp only [cond_true]
    refine pbin_nan hn ?_ hx hy hnan w
    simp only [List.mem_cons, List.not_mem_nil, or_false] at hop ⊢
    omega
/-! the lesser, the greater -/
theorem or_zero_n {a b : Nat} (ha : a < 2 ^ 64) (hb : b < 2 ^ 64) : bitsI .or .u64 (a : Int) (b : Int) = 0 ↔ a = 0 ∧ b = 0 := by
  rw [or_zero_iff' ⟨by omega, by omega⟩ ⟨by omega, by omega⟩]
  omega
theorem below_less {n : Nat} (a b : Nat) : Fx.below (fmtOf n) a b = lessB (decide (Fx.rungOf (fmtOf n) a = 0 ∧ Fx.rungOf (fmtOf n) b = 0)) (Fx.negOf (fmtOf n) a) (Fx.negOf (fmtOf n) b) (decide (Fx.rungOf (fmtOf n) a < Fx.rungOf (fmtOf n) b)) (decide (Fx.rungOf (fmtOf n) b < Fx.rungOf (fmtOf n) a)) := by
  unfold Fx.below lessB
  by_cases hz : Fx.rungOf (fmtOf n) a = 0 ∧ Fx.rungOf (fmtOf n) b = 0
  · rw [decide_eq_true hz, hz.1, hz.2]
    cases Fx.negOf (fmtOf n) a <;> cases Fx.negOf (fmtOf n) b <;> rfl
  · rw [decide_eq_false hz]
    cases Fx.negOf (fmtOf n) a <;> cases Fx.negOf (fmtOf n) b <;> simp [hz]
theorem zero_or {n : Nat} (hn : n = 32 ∨ n = 64) {a b : Nat} (ha : a < 2 ^ n) (hb : b < 2 ^ n) (za : Fx.rungOf (fmtOf n) a = 0) (zb : Fx.rungOf (fmtOf n) b = 0) :
    bitsI .or .u64 (a : Int) (b : Int) = (cond (Fx.negOf (fmtOf n) a) a b : Nat) ∧ bitsI .and .u64 (a : Int) (b : Int) = (cond (Fx.negOf (fmtOf n) a) b a : Nat) := by
  have h2w : (2 : Nat) ^ n = 2 * (fmtOf n).signWeight := by rw [fmt_sign hn]; rcases hn with rfl | rfl <;> decide
  have ea := Fx.word_self (fmtOf n) (w := a) (by rw [← h2w]; exact ha)
  have eb := Fx.word_self (fmtOf n) (w := b) (by rw [← h2w]; exact hb)
  rw [za] at ea
  rw [zb] at eb
  cases hsa : Fx.negOf (fmtOf n) a <;> cases hsb : Fx.negOf (fmtOf n) b <;> rw [hsa] at ea <;> rw [hsb] at eb <;> rw [← ea, ← eb] <;> rcases hn with rfl | rfl <;> decide
theorem endK_ok {n : Nat} (hn : n = 32 ∨ n = 64) {x y : Int} (na : Fx.isNaN (fmtOf n) (wordOf n x) = false) (nb : Fx.isNaN (fmtOf n) (wordOf n y) = false) {bz : Bool} (hbz : bz = decide (Fx.rungOf (fmtOf n) (wordOf n x) = 0 ∧ Fx.rungOf (fmtOf n) (wordOf n y) = 0)) :
    ∀ p ∈ endK n bz (Fx.negOf (fmtOf n) (wordOf n x)) (Fx.negOf (fmtOf n) (wordOf n y)) (decide (Fx.rungOf (fmtOf n) (wordOf n x) < Fx.rungOf (fmtOf n) (wordOf n y))) (decide (Fx.rungOf (fmtOf n) (wordOf n y) < Fx.rungOf (fmtOf n) (wordOf n x))) ++ cond bz (zK n (Fx.negOf (fmtOf n) (wordOf n x))) [],
      p.1.den (EG (vaB x y 0 0)) = p.2.den (EG (vaB x y 0 0)) := by
  have ra : Fx.rungOf (fmtOf n) (wordOf n x) < 2 ^ 64 := Nat.lt_of_lt_of_le (Fx.rung_lt_sign (fmtOf n) _) (by rw [fmt_sign hn]; exact Nat.pow_le_pow_right (by decide) (by omega))
  have rb : Fx.rungOf (fmtOf n) (wordOf n y) < 2 ^ 64 := Nat.lt_of_lt_of_le (Fx.rung_lt_sign (fmtOf n) _) (by rw [fmt_sign hn]; exact Nat.pow_le_pow_right (by decide) (by omega))
  have wa := w_u64 hn (word_lt (n := n) x)
  have wb := w_u64 hn (word_lt (n := n) y)
  have hsA := bsA_den (x := x) (y := y) (z := 0) (r := 0) hn
  have hsB := bsB_den (x := x) (y := y) (z := 0) (r := 0) hn
  have hA := bA_den (n := n) (x := x) (y := y) (z := 0) (r := 0)
  have hB := bB_den (n := n) (x := x) (y := y) (z := 0) (r := 0)
  have h0 : (SE.lit 0).den (EG (vaB x y 0 0)) = 0 := rfl
  intro p hp
  rcases List.mem_append.1 hp with hp | hp
  · rcases List.mem_append.1 hp with hp | hp
    · exact nanK_ok hn na.symm nb.symm p hp
    · simp only [List.mem_cons, List.not_mem_nil, or_false] at hp
      rcases hp with rfl | rfl | rfl | rfl | rfl | rfl
      · show (mkEq (mkOr .u64 (sA n) (sB n)) (.lit 0)).den _ = (b01 bz).den _
        refine eq_den ?_
        rw [mkOr_den _ .u64 _ _ (by rw [hsA]; exact nat_u64 ra) (by rw [hsB]; exact nat_u64 rb), hsA, hsB, h0, hbz]
        congr 1
        exact propext (or_zero_n ra rb).symm
      · show (mkEq (mkOr .u64 (sB n) (sA n)) (.lit 0)).den _ = (b01 bz).den _
        refine eq_den ?_
        rw [mkOr_den _ .u64 _ _ (by rw [hsB]; exact nat_u64 rb) (by rw [hsA]; exact nat_u64 ra), hsA, hsB, h0, hbz]
        congr 1
        refine propext ?_
        rw [or_zero_n rb ra]
        exact And.comm
      · exact bneg_den hn (word_lt x) hA rfl
      · exact bneg_den hn (word_lt y) hB rfl
      · exact ltn_den hsA hsB rfl
      · exact ltn_den hsB hsA rfl
  · cases hb : bz
    · rw [hb] at hp; cases hp
    · rw [hb] at hp hbz
      obtain ⟨za, zb⟩ := of_decide_eq_true hbz.symm
      obtain ⟨z1, z2⟩ := zero_or hn (word_lt (n := n) x) (word_lt (n := n) y) za zb
      simp only [cond_true, zK, List.mem_cons, List.not_mem_nil, or_false] at hp
      rcases hp with rfl | rfl
      · show (mkOr .u64 (wA n) (wB n)).den _ = (cond _ (wA n) (wB n)).den _
        rw [mkOr_den _ .u64 _ _ (by rw [hA]; exact nat_u64 wa) (by rw [hB]; exact nat_u64 wb), hA, hB, z1]
        cases Fx.negOf (fmtOf n) (wordOf n x)
        · exact hB.symm
        · exact hA.symm
      · show (mkAnd .u64 (wA n) (wB n)).den _ = (cond _ (wB n) (wA n)).den _
        rw [mkAnd_den _ .u64 _ _ (by rw [hA]; exact nat_u64 wa) (by rw [hB]; exact nat_u64 wb), hA, hB, z2]
        cases Fx.negOf (fmtOf n) (wordOf n x)
        · exact hA.symm
        · exact hB.symm
theorem pbin_end {n op : Nat} (hn : n = 32 ∨ n = 64) (hop : op ∈ [5, 6, 8, 9]) : LeafFB 104 n op := fun x y hx hy w => by
  have ho : op < 100 := by
    simp only [List.mem_cons, List.not_mem_nil, or_false] at hop
    omega
  have hA := bA_den (n := n) (x := x) (y := y) (z := 0) (r := 0)
  have hB := bB_den (n := n) (x := x) (y := y) (z := 0) (r := 0)
  cases hnan : nan2 n (wordOf n x) (wordOf n y)
  · obtain ⟨na, nb⟩ := Bool.or_eq_false_iff.1 hnan
    refine cx_mono (runB (z := 0) (r := 0) hn ho sumsG_ok (List.all_eq_true.1 (List.all_eq_true.1 (List.all_eq_true.1 (List.all_eq_true.1 (List.all_eq_true.1 (List.all_eq_true.1 (List.all_eq_true.1 pb_end n (mem_lt hn)) op hop) (decide (Fx.rungOf (fmtOf n) (wordOf n x) = 0 ∧ Fx.rungOf (fmtOf n) (wordOf n y) = 0)) (memB _)) (Fx.negOf (fmtOf n) (wordOf n x)) (memB _)) (Fx.negOf (fmtOf n) (wordOf n y)) (memB _))
      (decide (Fx.rungOf (fmtOf n) (wordOf n x) < Fx.rungOf (fmtOf n) (wordOf n y))) (memB _)) (decide (Fx.rungOf (fmtOf n) (wordOf n y) < Fx.rungOf (fmtOf n) (wordOf n x))) (memB _)) (endK_ok hn na nb rfl) hx hy w) fun u w' ⟨h1, h2⟩ => ⟨?_, h2⟩
    rw [h1]
    refine congrArg (fun t => Value.tuple #[.int .u64 t, .int .i64 0]) ?_
    have hl := below_less (n := n) (wordOf n x) (wordOf n y)
    have hl2 := below_less (n := n) (wordOf n y) (wordOf n x)
    have hcm : decide (Fx.rungOf (fmtOf n) (wordOf n y) = 0 ∧ Fx.rungOf (fmtOf n) (wordOf n x) = 0) = decide (Fx.rungOf (fmtOf n) (wordOf n x) = 0 ∧ Fx.rungOf (fmtOf n) (wordOf n y) = 0) := by
      congr 1
      exact propext And.comm
    rw [hcm] at hl2
    have hcd : ∀ (c : Bool) (p q : SE), (cond c p q).den (EG (vaB x y 0 0)) = cond c (p.den (EG (vaB x y 0 0))) (q.den (EG (vaB x y 0 0))) := fun c p q => by cases c <;> rfl
    have hcn : ∀ (c : Bool) (p q : Nat), (cond c (p : Int) (q : Int)) = ((cond c p q : Nat) : Int) := fun c p q => by cases c <;> rfl
    simp only [List.mem_cons, List.not_mem_nil, or_false] at hop
    rcases hop with rfl | rfl | rfl | rfl
    · show (endR n 5 _ _ _ _ _).den _ = (endN n true (wordOf n x) (wordOf n y) : Nat)
      unfold endR endN
      simp only [← hl, hcd, hA, hB, hcn, hnan, cond_false]
      congr 2
      · cases Fx.negOf (fmtOf n) (wordOf n x) <;> rfl
      · cases Fx.below (fmtOf n) (wordOf n x) (wordOf n y) <;> rfl
    · show (endR n 6 _ _ _ _ _).den _ = (endN n false (wordOf n x) (wordOf n y) : Nat)
      unfold endR endN
      simp only [← hl, hcd, hA, hB, hcn, hnan, cond_false]
      congr 2
      · cases Fx.negOf (fmtOf n) (wordOf n x) <;> rfl
      · cases Fx.below (fmtOf n) (wordOf n x) (wordOf n y) <;> rfl
    · show (endR n 8 _ _ _ _ _).den _ = (pmN n (wordOf n x) (wordOf n y) (wordOf n y) (wordOf n x) : Nat)
      unfold endR pmN
      simp only [← hl2, hcd, hA, hB, hcn, hnan, Bool.not_false, Bool.true_and]
    · show (endR n 9 _ _ _ _ _).den _ = (pmN n (wordOf n x) (wordOf n y) (wordOf n x) (wordOf n y) : Nat)
      unfold endR pmN
      simp only [← hl, hcd, hA, hB, hcn, hnan, Bool.not_false, Bool.true_and]
  · simp only [List.mem_cons, List.not_mem_nil, or_false] at hop
    rcases hop with rfl | rfl | rfl | rfl
    · have := pbin_nan hn (op := 5) (by decide) hx hy hnan w
      show CX Tryz.prog 104 _ w (fun u w' => u = .tuple #[.int .u64 (endN n true (wordOf n x) (wordOf n y) : Nat), .int .i64 0] ∧ _)
      unfold endN
      rw [hnan]
      exact this
    · have := pbin_nan hn (op := 6) (by decide) hx hy hnan w
      show CX Tryz.prog 104 _ w (fun u w' => u = .tuple #[.int .u64 (endN n false (wordOf n x) (wordOf n y) : Nat), .int .i64 0] ∧ _)
      unfold endN
      rw [hnan]
      exact this
    · have := pbin_nanP hn (op := 8) (by decide) hx hy hnan w
      show CX Tryz.prog 104 _ w (fun u w' => u = .tuple #[.int .u64 (pmN n (wordOf n x) (wordOf n y) (wordOf n y) (wordOf n x) : Nat), .int .i64 0] ∧ _)
      unfold pmN
      rw [hnan]
      exact this
    · have := pbin_nanP hn (op := 9) (by decide) hx hy hnan w
      show CX Tryz.prog 104 _ w (fun u w' => u = .tuple #[.int .u64 (pmN n (wordOf n x) (wordOf n y) (wordOf n x) (wordOf n y) : Nat), .int .i64 0] ∧ _)
      unfold pmN
      rw [hnan]
      exact this

end Sx
end Go.Proofs.YtfdggebddcoeeaaGreatDoor
end

/-
  The program's one float, and the reference's sign: they come to what the names say.
-/
set_option maxRecDepth 100000
noncomputable section
namespace Go.Proofs.YtfdggebddcoeeaaGreatDoor
namespace Sx
open Go Go.RowKit

theorem pu_abs : ([32, 64].all fun n => [95, 115].all fun f => isTU (runV sumsG [] f (args1 n 1)) (sA n)) = true := by kernel_rfl
def sgL (n : Nat) : SE := .lit (.ofNat (2 ^ (n - 1)))
theorem pu_neg : ([32, 64].all fun n => isTU (runV sumsG [(mkBit .xor .u64 (wA n) (sgL n), w2 n)] 95 (args1 n 2)) (w2 n)) = true := by kernel_rfl
def rnK (n : Nat) (ng : Bool) : List (SE × SE) := [(mkNot (mkLt (wA n) (sgL n)), b01 ng), cond ng (mkWrap .u64 (mkSub (wA n) (sgL n)), w2 n) (mkWrap .u64 (mkAdd (wA n) (sgL n)), w2 n)]
theorem ru_neg : ([32, 64].all fun n => [false, true].all fun ng => isTU (runV sumsG (rnK n ng) 115 (args1 n 2)) (w2 n)) = true := by kernel_rfl
theorem pu_nan : ([32, 64].all fun n => [3, 4, 5, 6, 7].all fun op => isTU (runV sumsG [(nanE n (wA n), .lit 1)] 95 (args1 n op)) (.lit (.ofNat (nanW n)))) = true := by kernel_rfl
def smSq (n : Nat) : Sm := fun a hp nx => match a with
  | [f, .int .u64 x] => cond (Nat.beq (fmtN f) n) (cond (SE.beq x (wA n)) (some (.int .u64 (rE n), hp, nx)) none) none
  | _ => none
def smWh (n op : Nat) : Sm := fun a hp nx => match a with
  | [f, .int .i64 k, .int .u64 x] => cond (Nat.beq (fmtN f) n) (cond (SE.beq k (.lit (.ofNat op))) (cond (SE.beq x (wA n)) (some (.int .u64 (rE n), hp, nx)) none) none) none
  | _ => none
theorem smSq_ok {va : Nat → Int} {G : Gl} {n a r : Nat} (hn : n = 32 ∨ n = 64) (hA : (wA n).den (EG va) = a) (hR : (rE n).den (EG va) = r) (hr : r < 2 ^ n)
    (h : ∀ w, CX Tryz.prog 145 #[fmtVal n, .int .u64 (a : Int)] w (fun u w' => u = .int .u64 (r : Nat) ∧ Below w.heap.size w w')) : SmOk (EG va) Tryz.prog G 145 (smSq n) := by
  intro args hp nx v hp' nx' hv loc w hrr hg hw
  unfold smSq at hv
  split at hv
  · rename_i f x
    cases h1 : Nat.beq (fmtN f) n <;> rw [h1] at hv <;> try (cases hv; done)
    cases h2 : SE.beq x (wA n) <;> rw [h2] at hv <;> cases hv
    obtain ⟨_, hf⟩ := fmtN_ok (Nat.eq_of_beq_eq_true h1) (by omega) (EG va) loc
    have hden : (denL (EG va) loc [f, .int .u64 x]).toArray = #[fmtVal n, .int .u64 (a : Int)] := by
      rw [SE.beq_eq h2]
      simp only [denL, SV.den, hf, hA]
    rw [hden]
    refine cx_mono (h w) fun u w' ⟨e1, e2⟩ => ⟨loc, ?_, step_of_below hrr e2 ?_⟩
    · rw [e1]
      simp only [SV.den]
      rw [hR]
    · simp only [SV.wf]
      rw [hR]
      exact nat_u64 (w_u64 hn hr)
  · cases hv
theorem smWh_ok {va : Nat → Int} {G : Gl} {n op a r : Nat} (hn : n = 32 ∨ n = 64) (hA : (wA n).den (EG va) = a) (hR : (rE n).den (EG va) = r) (hr : r < 2 ^ n)
    (h : ∀ w, CX Tryz.prog 146 #[fmtVal n, .int .i64 op, .int .u64 (a : Int)] w (fun u w' => u = .int .u64 (r : Nat) ∧ Below w.heap.size w w')) : SmOk (EG va) Tryz.prog G 146 (smWh n op) := by
  intro args hp nx v hp' nx' hv loc w hrr hg hw
  unfold smWh at hv
  split at hv
  · rename_i f k x
    cases h1 : Nat.beq (fmtN f) n <;> rw [h1] at hv <;> try (cases hv; done)
    cases h3 : SE.beq k (.lit (.ofNat op)) <;> rw [h3] at hv <;> try (cases hv; done)
    cases h2 : SE.beq x (wA n) <;> rw [h2] at hv <;> cases hv
    obtain ⟨_, hf⟩ := fmtN_ok (Nat.eq_of_beq_eq_true h1) (by omega) (EG va) loc
    have hden : (denL (EG va) loc [f, .int .i64 k, .int .u64 x]).toArray = #[fmtVal n, .int .i64 op, .int .u64 (a : Int)] := by
      rw [SE.beq_eq h2, SE.beq_eq h3]
      simp only [denL, SV.den, hf, hA]
      rfl
    rw [hden]
    refine cx_mono (h w) fun u w' ⟨e1, e2⟩ => ⟨loc, ?_, step_of_below hrr e2 ?_⟩
    · rw [e1]
      simp only [SV.den]
      rw [hR]
    · simp only [SV.wf]
      rw [hR]
      exact nat_u64 (w_u64 hn hr)
  · cases hv
theorem pu_sq : ([32, 64].all fun n => isTU (runV (sumsG.set 145 (smSq n)) [(nanE n (wA n), .lit 0)] 95 (args1 n 3)) (rE n)) = true := by kernel_rfl
theorem pu_wh : ([32, 64].all fun n => [4, 5, 6, 7].all fun op => isTU (runV (sumsG.set 146 (smWh n op)) [(nanE n (wA n), .lit 0)] 95 (args1 n op)) (rE n)) = true := by kernel_rfl
theorem abs_leaf {f n : Nat} (hf : f ∈ [95, 115]) (hn : n = 32 ∨ n = 64) : LeafFU f n 1 := fun x hx w => by
  refine cx_mono (runB1 (y := 0) (z := 0) (r := 0) hn (by decide) sumsG_ok (List.all_eq_true.1 (List.all_eq_true.1 pu_abs n (mem_lt hn)) f hf) (fun p hp => by cases hp) hx w) fun u w' ⟨h1, h2⟩ => ⟨?_, h2⟩
  rw [h1, bsA_den hn]
  rfl
theorem neg_leaf {n : Nat} (hn : n = 32 ∨ n = 64) : LeafFU 95 n 2 := fun x hx w => by
  have hfl := flip_lt hn (wordOf n x)
  refine cx_mono (runB1 (y := 0) (z := Fx.flip (fmtOf n) (wordOf n x)) (r := 0) hn (by decide) sumsG_ok (List.all_eq_true.1 pu_neg n (mem_lt hn)) ?_ hx w) fun u w' ⟨h1, h2⟩ => ⟨?_, h2⟩
  · intro p hp
    simp only [List.mem_cons, List.not_mem_nil, or_false] at hp
    subst hp
    show (mkBit .xor .u64 (wA n) (sgL n)).den _ = (w2 n).den _
    rw [mkBit_den, bA_den, bz_den hfl]
    exact flip_xor hn (word_lt x)
  · rw [h1, bz_den hfl]
    rfl
theorem neg_ge {n : Nat} (hn : n = 32 ∨ n = 64) {a : Nat} (ha : a < 2 ^ n) : Fx.negOf (fmtOf n) a = decide (2 ^ (n - 1) ≤ a) := by
  unfold Fx.negOf
  rw [fmt_sign hn]
  have h2 : 2 ^ n = 2 * 2 ^ (n - 1) := by rcases hn with rfl | rfl <;> decide
  have hp := Nat.two_pow_pos (n - 1)
  have hq : a / 2 ^ (n - 1) < 2 := (Nat.div_lt_iff_lt_mul hp).2 (by omega)
  by_cases h : 2 ^ (n - 1) ≤ a
  · have h1 : a / 2 ^ (n - 1) = 1 := by
      have := (Nat.one_le_div_iff hp).2 h
      omega
    rw [h1, decide_eq_true h]
    rfl
  · have h1 : a / 2 ^ (n - 1) = 0 := Nat.div_eq_of_lt (by omega)
    rw [h1, decide_eq_false h]
    rfl
theorem flip_arith {n : Nat} (hn : n = 32 ∨ n = 64) {a : Nat} (ha : a < 2 ^ n) : Fx.flip (fmtOf n) a = cond (Fx.negOf (fmtOf n) a) (a - 2 ^ (n - 1)) (a + 2 ^ (n - 1)) := by
  have h2 : 2 ^ n = 2 * 2 ^ (n - 1) := by rcases hn with rfl | rfl <;> decide
  have hr : Fx.rungOf (fmtOf n) a = a % 2 ^ (n - 1) := by unfold Fx.rungOf; rw [fmt_sign hn]
  have hng := neg_ge hn ha
  unfold Fx.flip Ieee.Format.word
  rw [fmt_sign hn, hr]
  cases h : Fx.negOf (fmtOf n) a
  · rw [h] at hng
    have := of_decide_eq_false hng.symm
    rw [Nat.mod_eq_of_lt (by omega)]
    show 2 ^ (n - 1) + a = a + 2 ^ (n - 1)
    omega
  · rw [h] at hng
    have := of_decide_eq_true hng.symm
    rw [Nat.mod_eq_sub_mod (by omega), Nat.mod_eq_of_lt (by omega)]
    rfl
theorem rneg_leaf {n : Nat} (hn : n = 32 ∨ n = 64) : LeafFU 115 n 2 := fun x hx w => by
  have hfl := flip_lt hn (wordOf n x)
  have hfa := flip_arith hn (word_lt (n := n) x)
  have hng := neg_ge hn (word_lt (n := n) x)
  have h64 : 2 ^ n ≤ 2 ^ 64 := Nat.pow_le_pow_right (by decide) (by omega)
  have hwl := word_lt (n := n) x
  have hA := bA_den (n := n) (x := x) (y := 0) (z := Fx.flip (fmtOf n) (wordOf n x)) (r := 0)
  have hW := bz_den (n := n) (x := x) (y := 0) (r := 0) hfl
  have hS : (sgL n).den (EG (vaB x 0 (Fx.flip (fmtOf n) (wordOf n x)) 0)) = (2 ^ (n - 1) : Nat) := rfl
  refine cx_mono (runB1 (y := 0) (z := Fx.flip (fmtOf n) (wordOf n x)) (r := 0) hn (by decide) sumsG_ok (List.all_eq_true.1 (List.all_eq_true.1 ru_neg n (mem_lt hn)) (Fx.negOf (fmtOf n) (wordOf n x)) (memB _)) ?_ hx w) fun u w' ⟨h1, h2⟩ => ⟨?_, h2⟩
  · intro p hp
    simp only [rnK, List.mem_cons, List.not_mem_nil, or_false] at hp
    rcases hp with rfl | rfl
    · show (mkNot (mkLt (wA n) (sgL n))).den _ = (b01 _).den _
      refine nlt_den hA hS ?_
      rw [hng]
      congr 1
      exact propext Nat.not_lt.symm
    · cases h : Fx.negOf (fmtOf n) (wordOf n x)
      · rw [h] at hfa
        simp only [cond_false] at hfa
        show (mkWrap .u64 (mkAdd (wA n) (sgL n))).den _ = (w2 n).den _
        rw [mkWrap_den, mkAdd_den, hA, hS, hW, wrap_u64]
        omega
      · rw [h] at hfa hng
        have := of_decide_eq_true hng.symm
        simp only [cond_true] at hfa
        show (mkWrap .u64 (mkSub (wA n) (sgL n))).den _ = (w2 n).den _
        rw [mkWrap_den, mkSub_den, hA, hS, hW, wrap_u64]
        omega
  · rw [h1, hW]
    rfl
theorem pun_nan {n op : Nat} (hn : n = 32 ∨ n = 64) (hop : op ∈ [3, 4, 5, 6, 7]) {x : Int} (hx : inR .u64 x) (h : Fx.isNaN (fmtOf n) (wordOf n x) = true) (w : World) :
    CX Tryz.prog 95 #[.int .i64 n, .int .i64 op, .int .u64 x] w (fun u w' => u = .tuple #[.int .u64 (nanW n : Nat), .int .i64 0] ∧ Below w.heap.size w w') := by
  have ho : op < 100 := by
    simp only [List.mem_cons, List.not_mem_nil, or_false] at hop
    omega
  refine runB1 (y := 0) (z := 0) (r := 0) hn ho sumsG_ok (List.all_eq_true.1 (List.all_eq_true.1 pu_nan n (mem_lt hn)) op hop) ?_ hx w
  intro p hp
  simp only [List.mem_cons, List.not_mem_nil, or_false] at hp
  subst hp
  show (nanE n (wA n)).den _ = (b01 true).den _
  exact bnan_den hn (word_lt x) bA_den h.symm
theorem nanK1 {n : Nat} (hn : n = 32 ∨ n = 64) {x y : Int} {z r : Nat} (h : Fx.isNaN (fmtOf n) (wordOf n x) = false) : ∀ p ∈ [(nanE n (wA n), SE.lit 0)], p.1.den (EG (vaB x y z r)) = p.2.den (EG (vaB x y z r)) := by
  intro p hp
  simp only [List.mem_cons, List.not_mem_nil, or_false] at hp
  subst hp
  show (nanE n (wA n)).den _ = (b01 false).den _
  exact bnan_den hn (word_lt x) bA_den h.symm
theorem sqrt_lt' {n : Nat} (hn : n = 32 ∨ n = 64) (a : Nat) : ((fmtOf n).sqrt a).getD (nanW n) < 2 ^ n := by
  cases h : (fmtOf n).sqrt a with
  | none => exact nanW_lt hn
  | some r =>
    show r < 2 ^ n
    rw [← width_n hn]
    unfold Ieee.Format.sqrt at h
    cases hd : Ieee.Datum.root ((fmtOf n).fractionBits + 2) ((fmtOf n).read a) with
    | none => rw [hd] at h; cases h
    | some d =>
      rw [hd] at h
      cases h
      exact (fmtOf n).write_lt d
theorem whole_lt {n : Nat} (hn : n = 32 ∨ n = 64) (way : Ieee.Toward) (a : Nat) : Fx.wholeW (fmtOf n) way a < 2 ^ n := by
  have := (fmtOf n).write_lt (((fmtOf n).read a).integral way)
  rw [width_n hn] at this
  exact this
theorem sqrt_leaf {n : Nat} (hn : n = 32 ∨ n = 64) : LeafFU 95 n 3 := fun x hx w => by
  have hF : FU n 3 x = (((fmtOf n).sqrt (wordOf n x)).getD (nanW n) : Nat) := rfl
  rw [hF]
  cases hnan : Fx.isNaN (fmtOf n) (wordOf n x)
  · have hl := sqrt_lt' hn (wordOf n x)
    have hc := sqrt_full hn (word_lt x) (nan_le hn hnan)
    have hc' : ∀ w, CX Tryz.prog 145 #[fmtVal n, .int .u64 ((wordOf n x : Nat) : Int)] w (fun u w' => u = .int .u64 (((fmtOf n).sqrt (wordOf n x)).getD (nanW n) : Nat) ∧ Below w.heap.size w w') := hc
    generalize ((fmtOf n).sqrt (wordOf n x)).getD (nanW n) = r at *
    refine cx_mono (runB1 (y := 0) (z := 0) (r := r) hn (by decide) (sumsG_add (smSq_ok hn bA_den (br_den hl) hl hc')) (List.all_eq_true.1 pu_sq n (mem_lt hn)) (nanK1 hn hnan) hx w) fun u w' ⟨h1, h2⟩ => ⟨?_, h2⟩
    rw [h1, br_den hl]
  · rw [Fx.sqrt_nan _ fmt_exp hnan]
    exact pun_nan hn (by decide) hx hnan w
theorem whole_leaf {n op : Nat} (hn : n = 32 ∨ n = 64) (hop : op ∈ [4, 5, 6, 7]) : LeafFU 95 n op := fun x hx w => by
  have ho : op < 100 := by
    simp only [List.mem_cons, List.not_mem_nil, or_false] at hop
    omega
  have hF : FU n op x = (cond (Fx.isNaN (fmtOf n) (wordOf n x)) (nanW n) (Fx.wholeW (fmtOf n) (wayOf op) (wordOf n x)) : Nat) := by
    simp only [List.mem_cons, List.not_mem_nil, or_false] at hop
    rcases hop with rfl | rfl | rfl | rfl <;> rfl
  rw [hF]
  cases hnan : Fx.isNaN (fmtOf n) (wordOf n x)
  · simp only [cond_false]
    have hl := whole_lt hn (wayOf op) (wordOf n x)
    have hc := whole_full hn (op := op) (by
      simp only [List.mem_cons, List.not_mem_nil, or_false] at hop
      omega) (word_lt x) (nan_le hn hnan)
    generalize Fx.wholeW (fmtOf n) (wayOf op) (wordOf n x) = r at *
    refine cx_mono (runB1 (y := 0) (z := 0) (r := r) hn ho (sumsG_add (smWh_ok hn bA_den (br_den hl) hl hc)) (List.all_eq_true.1 (List.all_eq_true.1 pu_wh n (mem_lt hn)) op hop) (nanK1 hn hnan) hx w) fun u w' ⟨h1, h2⟩ => ⟨?_, h2⟩
    rw [h1, br_den hl]
  · simp only [cond_true]
    refine pun_nan hn ?_ hx hnan w
    simp only [List.mem_cons, List.not_mem_nil, or_false] at hop ⊢
    omega

end Sx
end Go.Proofs.YtfdggebddcoeeaaGreatDoor
end

/-
  Floats: the summaries of what two come to, of what one comes to.
-/
set_option maxRecDepth 100000
noncomputable section
namespace Go.Proofs.YtfdggebddcoeeaaGreatDoor
namespace Sx
open Go Go.RowKit

def codeX (n op : Nat) : Nat := (600 + op) * 100 + n
def codeY (n op : Nat) : Nat := (700 + op) * 100 + n
def F2X (c : Nat) (x y : Int) : Int := FB (c % 100) (c / 100 % 100) x y
def F1X (c : Nat) (x : Int) : Int := FU (c % 100) (c / 100 % 100) x
def EX (va : Nat → Int) : Env := ⟨F1X, F2X, va⟩
theorem codeX_n {n op : Nat} (hn : n < 100) : codeX n op % 100 = n := by unfold codeX; omega
theorem codeX_op {n op : Nat} (hn : n < 100) (ho : op < 100) : codeX n op / 100 % 100 = op := by unfold codeX; omega
theorem codeY_n {n op : Nat} (hn : n < 100) : codeY n op % 100 = n := by unfold codeY; omega
theorem codeY_op {n op : Nat} (hn : n < 100) (ho : op < 100) : codeY n op / 100 % 100 = op := by unfold codeY; omega
theorem endN_lt {n : Nat} (hn : n = 32 ∨ n = 64) (mn : Bool) {a b : Nat} (ha : a < 2 ^ n) (hb : b < 2 ^ n) : endN n mn a b < 2 ^ n := by
  have h := nanW_lt hn
  unfold endN
  cases nan2 n a b <;> cases decide (Fx.rungOf (fmtOf n) a = 0 ∧ Fx.rungOf (fmtOf n) b = 0) <;> cases (mn == Fx.negOf (fmtOf n) a) <;> cases (Fx.below (fmtOf n) a b == mn) <;> simp only [cond_true, cond_false] <;> assumption
theorem pmN_lt {n : Nat} {a b c d : Nat} (ha : a < 2 ^ n) (hb : b < 2 ^ n) : pmN n a b c d < 2 ^ n := by
  unfold pmN
  cases ((!nan2 n a b) && Fx.below (fmtOf n) c d) <;> simp only [cond_true, cond_false] <;> assumption
theorem arN_lt {n : Nat} (hn : n = 32 ∨ n = 64) (op : Nat) (a b : Nat) : arN n op a b < 2 ^ n := by
  unfold arN
  cases nan2 n a b
  · exact bits_lt hn _ _ _
  · exact nanW_lt hn
theorem binN_lt {n : Nat} (hn : n = 32 ∨ n = 64) (op : Nat) {a b : Nat} (ha : a < 2 ^ n) (hb : b < 2 ^ n) : binN n op a b < 2 ^ n := by
  unfold binN
  split
  · exact arN_lt hn _ _ _
  · exact arN_lt hn _ _ _
  · exact arN_lt hn _ _ _
  · exact arN_lt hn _ _ _
  · exact endN_lt hn _ ha hb
  · exact endN_lt hn _ ha hb
  · exact pmN_lt ha hb
  · exact pmN_lt ha hb
theorem unN_lt {n : Nat} (hn : n = 32 ∨ n = 64) (op : Nat) (a : Nat) : unN n op a < 2 ^ n := by
  unfold unN
  split
  · have h := Fx.rung_lt_sign (fmtOf n) a
    rw [fmt_sign hn] at h
    exact Nat.lt_of_lt_of_le h (Nat.pow_le_pow_right (by decide) (by omega))
  · exact flip_lt hn a
  · exact sqrt_lt' hn a
  · cases Fx.isNaN (fmtOf n) a
    · exact whole_lt hn _ a
    · exact nanW_lt hn
theorem ex2_den {va : Nat → Int} {n op : Nat} (hn : n = 32 ∨ n = 64) (ho : op < 100) (a b : SE) : (SE.f2 (codeX n op) a b).den (EX va) = FB n op (a.den (EX va)) (b.den (EX va)) := by
  show F2X (codeX n op) (a.den (EX va)) (b.den (EX va)) % 2 ^ (codeX n op % 100) = _
  unfold F2X
  rw [codeX_n (by omega), codeX_op (by omega) ho]
  exact nat_md (binN_lt hn op (word_lt _) (word_lt _))
theorem ex1_den {va : Nat → Int} {n op : Nat} (hn : n = 32 ∨ n = 64) (ho : op < 100) (a : SE) : (SE.f1 (codeY n op) a).den (EX va) = FU n op (a.den (EX va)) := by
  show F1X (codeY n op) (a.den (EX va)) % 2 ^ (codeY n op % 100) = _
  unfold F1X
  rw [codeY_n (by omega), codeY_op (by omega) ho]
  exact nat_md (unN_lt hn op _)
def smFB (l : List (Nat × Nat)) : Sm := fun a hp nx => match a with
  | [.int .i64 (.lit (.ofNat n)), .int .i64 (.lit (.ofNat op)), .int .u64 a, .int .u64 b] => cond (memP l n op) (some (.tup [.int .u64 (.f2 (codeX n op) a b), .int .i64 (.lit 0)], hp, nx)) none
  | _ => none
def smFU (l : List (Nat × Nat)) : Sm := fun a hp nx => match a with
  | [.int .i64 (.lit (.ofNat n)), .int .i64 (.lit (.ofNat op)), .int .u64 a] => cond (memP l n op) (some (.tup [.int .u64 (.f1 (codeY n op) a), .int .i64 (.lit 0)], hp, nx)) none
  | _ => none
def fine (l : List (Nat × Nat)) : Prop := ∀ p ∈ l, (p.1 = 32 ∨ p.1 = 64) ∧ p.2 < 100
theorem smFB_ok {va : Nat → Int} {G : Gl} {f : FuncId} {l : List (Nat × Nat)} (hs : fine l) (h : ∀ p ∈ l, LeafFB f p.1 p.2) : SmOk (EX va) Tryz.prog G f (smFB l) := by
  intro args hp nx v hp' nx' hv loc w hr hg hw
  unfold smFB at hv
  split at hv
  · rename_i n op a b
    cases h1 : memP l n op <;> rw [h1] at hv <;> cases hv
    have hm := memP_ok h1
    obtain ⟨s1, s2⟩ := hs _ hm
    simp only at s1 s2
    obtain ⟨_, _, wa, wb, _⟩ := hw
    refine cx_mono (h _ hm _ _ wa wb w) fun u w' ⟨e1, e2⟩ => ⟨loc, ?_, step_of_below hr e2 ⟨?_, in_bits (n := 0) (by decide), trivial⟩⟩
    · rw [e1]
      simp only [SV.den, denL, ex2_den s1 s2]
      rfl
    · simp only [SV.wf]
      rw [ex2_den s1 s2]
      exact nat_u64 (w_u64 s1 (binN_lt s1 op (word_lt _) (word_lt _)))
  · cases hv
theorem smFU_ok {va : Nat → Int} {G : Gl} {f : FuncId} {l : List (Nat × Nat)} (hs : fine l) (h : ∀ p ∈ l, LeafFU f p.1 p.2) : SmOk (EX va) Tryz.prog G f (smFU l) := by
  intro args hp nx v hp' nx' hv loc w hr hg hw
  unfold smFU at hv
  split at hv
  · rename_i n op a
    cases h1 : memP l n op <;> rw [h1] at hv <;> cases hv
    have hm := memP_ok h1
    obtain ⟨s1, s2⟩ := hs _ hm
    simp only at s1 s2
    obtain ⟨_, _, wa, _⟩ := hw
    refine cx_mono (h _ hm _ wa w) fun u w' ⟨e1, e2⟩ => ⟨loc, ?_, step_of_below hr e2 ⟨?_, in_bits (n := 0) (by decide), trivial⟩⟩
    · rw [e1]
      simp only [SV.den, denL, ex1_den s1 s2]
      rfl
    · simp only [SV.wf]
      rw [ex1_den s1 s2]
      exact nat_u64 (w_u64 s1 (unN_lt s1 op _))
  · cases hv
def fbL : List (Nat × Nat) := [(32, 1), (32, 2), (32, 3), (32, 4), (32, 5), (32, 6), (32, 8), (32, 9), (64, 1), (64, 2), (64, 3), (64, 4), (64, 5), (64, 6), (64, 8), (64, 9)]
theorem fbL_fine : fine fbL := by
  intro p hp
  simp only [fbL, List.mem_cons, List.not_mem_nil, or_false] at hp
  rcases hp with rfl | rfl | rfl | rfl | rfl | rfl | rfl | rfl | rfl | rfl | rfl | rfl | rfl | rfl | rfl | rfl <;> decide
theorem fbL_104 : ∀ p ∈ fbL, LeafFB 104 p.1 p.2 := by
  intro p hp
  simp only [fbL, List.mem_cons, List.not_mem_nil, or_false] at hp
  rcases hp with rfl | rfl | rfl | rfl | rfl | rfl | rfl | rfl | rfl | rfl | rfl | rfl | rfl | rfl | rfl | rfl
  · exact pbin_ar (.inl rfl) (by decide)
  · exact pbin_ar (.inl rfl) (by decide)
  · exact pbin_ar (.inl rfl) (by decide)
  · exact pbin_ar (.inl rfl) (by decide)
  · exact pbin_end (.inl rfl) (by decide)
  · exact pbin_end (.inl rfl) (by decide)
  · exact pbin_end (.inl rfl) (by decide)
  · exact pbin_end (.inl rfl) (by decide)
  · exact pbin_ar (.inr rfl) (by decide)
  · exact pbin_ar (.inr rfl) (by decide)
  · exact pbin_ar (.inr rfl) (by decide)
  · exact pbin_ar (.inr rfl) (by decide)
  · exact pbin_end (.inr rfl) (by decide)
  · exact pbin_end (.inr rfl) (by decide)
  · exact pbin_end (.inr rfl) (by decide)
  · exact pbin_end (.inr rfl) (by decide)
theorem fbL_114 : ∀ p ∈ fbL, LeafFB 114 p.1 p.2 := by
  intro p hp
  simp only [fbL, List.mem_cons, List.not_mem_nil, or_false] at hp
  rcases hp with rfl | rfl | rfl | rfl | rfl | rfl | rfl | rfl | rfl | rfl | rfl | rfl | rfl | rfl | rfl | rfl
  · exact rbin32_1
  · exact rbin32_2
  · exact rbin32_3
  · exact rbin32_4
  · exact rbin32_5
  · exact rbin32_6
  · exact rbin32_8
  · exact rbin32_9
  · exact rbin64_1
  · exact rbin64_2
  · exact rbin64_3
  · exact rbin64_4
  · exact rbin64_5
  · exact rbin64_6
  · exact rbin64_8
  · exact rbin64_9
def fuL : List (Nat × Nat) := [(32, 1), (32, 2), (32, 3), (32, 4), (32, 5), (32, 6), (32, 7), (64, 1), (64, 2), (64, 3), (64, 4), (64, 5), (64, 6), (64, 7)]
theorem fuL_fine : fine fuL := by
  intro p hp
  simp only [fuL, List.mem_cons, List.not_mem_nil, or_false] at hp
  rcases hp with rfl | rfl | rfl | rfl | rfl | rfl | rfl | rfl | rfl | rfl | rfl | rfl | rfl | rfl <;> decide
theorem fuL_95 : ∀ p ∈ fuL, LeafFU 95 p.1 p.2 := by
  intro p hp
  simp only [fuL, List.mem_cons, List.not_mem_nil, or_false] at hp
  rcases hp with rfl | rfl | rfl | rfl | rfl | rfl | rfl | rfl | rfl | rfl | rfl | rfl | rfl | rfl
  · exact abs_leaf (by decide) (.inl rfl)
  · exact neg_leaf (.inl rfl)
  · exact sqrt_leaf (.inl rfl)
  · exact whole_leaf (.inl rfl) (by decide)
  · exact whole_leaf (.inl rfl) (by decide)
  · exact whole_leaf (.inl rfl) (by decide)
  · exact whole_leaf (.inl rfl) (by decide)
  · exact abs_leaf (by decide) (.inr rfl)
  · exact neg_leaf (.inr rfl)
  · exact sqrt_leaf (.inr rfl)
  · exact whole_leaf (.inr rfl) (by decide)
  · exact whole_leaf (.inr rfl) (by decide)
  · exact whole_leaf (.inr rfl) (by decide)
  · exact whole_leaf (.inr rfl) (by decide)
theorem fuL_115 : ∀ p ∈ fuL, LeafFU 115 p.1 p.2 := by
  intro p hp
  simp only [fuL, List.mem_cons, List.not_mem_nil, or_false] at hp
  rcases hp with rfl | rfl | rfl | rfl | rfl | rfl | rfl | rfl | rfl | rfl | rfl | rfl | rfl | rfl
  · exact abs_leaf (by decide) (.inl rfl)
  · exact rneg_leaf (.inl rfl)
  · exact run32_3
  · exact run32_4
  · exact run32_5
  · exact run32_6
  · exact run32_7
  · exact abs_leaf (by decide) (.inr rfl)
  · exact rneg_leaf (.inr rfl)
  · exact run64_3
  · exact run64_4
  · exact run64_5
  · exact run64_6
  · exact run64_7
def sumsFloats : Tr Sm := (sumsA.set 104 (smFB fbL)).set 114 (smFB fbL)
theorem sumsFloats_ok (va : Nat → Int) (keys : List (SE × SE)) (spl : List (SE × SE × Nat)) : SumsOk (EX va) Tryz.prog (Gu keys spl) sumsFloats := sums_add (sums_add sumsA_ok (smFB_ok fbL_fine fbL_104)) (smFB_ok fbL_fine fbL_114)
def sumsFloatOnes : Tr Sm := (sumsA.set 95 (smFU fuL)).set 115 (smFU fuL)
theorem sumsFloatOnes_ok (va : Nat → Int) (keys : List (SE × SE)) (spl : List (SE × SE × Nat)) : SumsOk (EX va) Tryz.prog (Gu keys spl) sumsFloatOnes := sums_add (sums_add sumsA_ok (smFU_ok fuL_fine fuL_95)) (smFU_ok fuL_fine fuL_115)

end Sx
end Go.Proofs.YtfdggebddcoeeaaGreatDoor
end
