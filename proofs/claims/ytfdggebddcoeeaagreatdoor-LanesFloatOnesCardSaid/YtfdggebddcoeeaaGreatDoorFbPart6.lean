/-
  A part of the proof.
-/
import Derived.Test.YtfdggebddcoeeaaGreatDoorFbMu
import Derived.Test.YtfdggebddcoeeaaGreatDoorFbAd
import Derived.Test.YtfdggebddcoeeaaGreatDoorFbPart5
import Derived.Test.YtfdggebddcoeeaaGreatDoorFbWa
set_option linter.unusedVariables false
set_option linter.unusedSimpArgs false
/-
  The program's product of two finite floats.
-/
set_option maxRecDepth 100000
noncomputable section
namespace Go.Proofs.YtfdggebddcoeeaaGreatDoor
namespace Sx
open Go Go.RowKit

theorem mul_f' {n : Nat} (hn : n = 32 ∨ n = 64) : isUE (runV sumsG (mulKf n) 156 (argsF n)) (sgE n (xorE n) (rngE n false (zAB n) e13)) = true := List.all_eq_true.1 mul_f n (mem_n hn)
def vaM (a b : Nat) (e : Int) : Nat → Int
  | 0 => a
  | 1 => b
  | 2 => e + 5000
  | _ => 0
section
variable {n a b : Nat} {e : Int}
theorem wA_den (ha : a < 2 ^ n) : (wA n).den (EG (vaM a b e)) = a := by
  show (a : Int) % 2 ^ n = a
  exact nat_md ha
theorem wB_den (hb : b < 2 ^ n) : (wB n).den (EG (vaM a b e)) = b := by
  show (b : Int) % 2 ^ n = b
  exact nat_md hb
theorem rgI_nat (a : Nat) : rgI n (a : Int) = a % 2 ^ (n - 1) := by
  unfold rgI
  have : (a : Int) % 2 ^ (n - 1) = ((a % 2 ^ (n - 1) : Nat) : Int) := by push_cast; rfl
  rw [this, Int.toNat_natCast]
theorem sA_den : (sA n).den (EG (vaM a b e)) = (rgI n (a : Int) : Nat) := by
  rw [rgI_nat]
  show (a : Int) % 2 ^ (n - 1) = _
  push_cast
  rfl
theorem sB_den : (sB n).den (EG (vaM a b e)) = (rgI n (b : Int) : Nat) := by
  rw [rgI_nat]
  show (b : Int) % 2 ^ (n - 1) = _
  push_cast
  rfl
theorem e13_den (h1 : -5000 ≤ e) (h2 : e < 3192) : e13.den (EG (vaM a b e)) = e := by
  show (e + 5000) % 2 ^ 13 - 5000 = e
  omega
theorem mag_lt {n : Nat} (hn : n = 32 ∨ n = 64) (r : Nat) : Fx.magOf (fmtOf n) r < 2 ^ 53 := by
  have h1 : (fmtOf n).binade = 2 ^ fb n := by unfold Ieee.Format.binade; rw [(fmt_nums hn).1]
  have h2 : 2 ^ fb n ≤ 2 ^ 52 := Nat.pow_le_pow_right (by decide) (by rcases hn with rfl | rfl <;> decide)
  unfold Fx.magOf
  rw [h1]
  have := Nat.mod_lt r (Nat.two_pow_pos (fb n))
  split <;> omega
theorem hi_lt {x y : Nat} (hx : x < 2 ^ 53) (hy : y < 2 ^ 53) : x * y / 2 ^ 64 < 2 ^ 42 := by
  have h : x * y < 2 ^ 53 * 2 ^ 53 := Nat.mul_lt_mul'' hx hy
  rw [Nat.div_lt_iff_lt_mul (by decide)]
  exact h
theorem hiAB_den (hn : n = 32 ∨ n = 64) (ha : a < 2 ^ n) (hb : b < 2 ^ n) : (hiAB n).den (EG (vaM a b e)) = (Fx.magOf (fmtOf n) (rgI n a) * Fx.magOf (fmtOf n) (rgI n b) / 2 ^ 64 : Nat) := by
  have h1 : (magE n (wA n)).den (EG (vaM a b e)) = (Fx.magOf (fmtOf n) (rgI n a) : Nat) := by rw [magE_den hn, wA_den ha]
  have h2 : (magE n (wB n)).den (EG (vaM a b e)) = (Fx.magOf (fmtOf n) (rgI n b) : Nat) := by rw [magE_den hn, wB_den hb]
  exact hi_den h1 h2 (Nat.lt_trans (mag_lt hn _) (by decide)) (Nat.lt_trans (mag_lt hn _) (by decide))
theorem loAB_den (hn : n = 32 ∨ n = 64) (ha : a < 2 ^ n) (hb : b < 2 ^ n) : (loAB n).den (EG (vaM a b e)) = (Fx.magOf (fmtOf n) (rgI n a) * Fx.magOf (fmtOf n) (rgI n b) % 2 ^ 64 : Nat) := by
  have h1 : (magE n (wA n)).den (EG (vaM a b e)) = (Fx.magOf (fmtOf n) (rgI n a) : Nat) := by rw [magE_den hn, wA_den ha]
  have h2 : (magE n (wB n)).den (EG (vaM a b e)) = (Fx.magOf (fmtOf n) (rgI n b) : Nat) := by rw [magE_den hn, wB_den hb]
  exact lo_den h1 h2
theorem zAB_den (hn : n = 32 ∨ n = 64) (ha : a < 2 ^ n) (hb : b < 2 ^ n) : (zAB n).den (EG (vaM a b e)) = (mulZ (Fx.magOf (fmtOf n) (rgI n a) * Fx.magOf (fmtOf n) (rgI n b)) : Nat) := by
  have hh := hiAB_den (e := e) hn ha hb
  have hl := loAB_den (e := e) hn ha hb
  have hlt := hi_lt (mag_lt hn (rgI n a)) (mag_lt hn (rgI n b))
  generalize Fx.magOf (fmtOf n) (rgI n a) * Fx.magOf (fmtOf n) (rgI n b) = P at *
  have hlen := lenG_den (va := vaM a b e) hh (by omega)
  have hP64 : P % 2 ^ 64 < 2 ^ 64 := Nat.mod_lt _ (by decide)
  unfold mulZ
  show (if (if (0 : Int) < (lenE (hiAB n)).den (EG (vaM a b e)) then (1 : Int) else 0) = 0 then (loAB n).den (EG (vaM a b e)) else bitsI .or .u64 ((jamE (loAB n) (lenE (hiAB n))).den (EG (vaM a b e))) (IntKind.u64.wrap ((hiAB n).den (EG (vaM a b e)) * 2 ^ ((amt .u64 (mkWrap .u64 (mkWrap .i64 (mkSub (.lit 64) (lenE (hiAB n)))))).den (EG (vaM a b e))).toNat))) = _
  have hL : lenN (P / 2 ^ 64) ≤ 42 := by
    unfold lenN
    split
    · omega
    · rename_i h0
      have := (Nat.pow_lt_pow_iff_right (a := 2) (by decide)).1 (Nat.lt_of_le_of_lt (Fx.log2_bounds h0).1 hlt)
      omega
  have hPl : P / 2 ^ 64 < 2 ^ lenN (P / 2 ^ 64) := by
    unfold lenN
    split
    · rename_i h0; rw [h0]; decide
    · rename_i h0; exact (Fx.log2_bounds h0).2
  rw [hlen]
  by_cases h0 : 0 < lenN (P / 2 ^ 64)
  · rw [if_pos (show (0 : Int) < (lenN (P / 2 ^ 64) : Nat) by omega), if_neg (by decide), if_pos h0]
    have hsub : (mkWrap .u64 (mkWrap .i64 (mkSub (.lit 64) (lenE (hiAB n))))).den (EG (vaM a b e)) = 64 - (lenN (P / 2 ^ 64) : Int) := by
      rw [mkWrap_den, mkWrap_den, mkSub_den, hlen]
      show IntKind.u64.wrap (IntKind.i64.wrap (64 - (lenN (P / 2 ^ 64) : Int))) = _
      rw [wrap_i64 (by omega) (by omega), wrap_u64]
      omega
    rw [amt_den hsub (by omega), jamE_den hl hP64, hlen, hh, wrap_u64]
    generalize lenN (P / 2 ^ 64) = L at *
    have e1 : (64 - (L : Int)).toNat = 64 - L := by omega
    have e2 : min ((L : Nat) : Int).toNat 63 = L := by omega
    rw [e1, e2]
    have hj : Fx.jam (P % 2 ^ 64) L < 2 ^ (64 - L) := by
      have h3 : P % 2 ^ 64 / 2 ^ L < 2 ^ (64 - L) := by
        rw [Nat.div_lt_iff_lt_mul (Nat.two_pow_pos _), ← Fx.pow_split, show 64 - L + L = 64 by omega]
        exact hP64
      have h4 : 2 ^ (64 - L) = 2 * 2 ^ (63 - L) := by rw [show 64 - L = (63 - L) + 1 by omega, Nat.pow_succ]; omega
      unfold Fx.jam
      split <;> omega
    have hm : P / 2 ^ 64 * 2 ^ (64 - L) < 2 ^ 64 := by
      have := Nat.mul_lt_mul_of_pos_right hPl (Nat.two_pow_pos (64 - L))
      rw [← Fx.pow_split, show L + (64 - L) = 64 by omega] at this
      exact this
    have e3 : ((P / 2 ^ 64 : Nat) : Int) * 2 ^ (64 - L) = ((P / 2 ^ 64 * 2 ^ (64 - L) : Nat) : Int) := by rw [Int.natCast_mul, Int.natCast_pow]; rfl
    have e4 : ((2 ^ (64 - L) : Nat) : Int) = 2 ^ (64 - L) := by push_cast; rfl
    have e5 : ((P / 2 ^ 64 : Nat) : Int) * 2 ^ (64 - L) % 2 ^ 64 = ((P / 2 ^ 64 : Nat) : Int) * 2 ^ (64 - L) := by rw [e3]; exact u64_id (nat_u64 hm)
    rw [e5, or_shl .u64 _ _ _ rfl (by omega) (by omega) (nat_u64 (jam_lt hP64)) (by rw [e3]; exact nat_u64 hm), ← e4, Int.mul_comm, ← Int.natCast_mul, ← Int.natCast_add]
  · rw [if_neg (show ¬ (0 : Int) < (lenN (P / 2 ^ 64) : Nat) by omega), if_pos rfl, if_neg h0, hl]
end

end Sx
end Go.Proofs.YtfdggebddcoeeaaGreatDoor
end

/-
  The program's product of two finite floats, whole.
-/
set_option maxRecDepth 100000
noncomputable section
namespace Go.Proofs.YtfdggebddcoeeaaGreatDoor
namespace Sx
open Go Go.RowKit

theorem plc_fin {n : Nat} (hn : n = 32 ∨ n = 64) {r : Nat} (h : r < infR n) : -1200 < Fx.placeOf (fmtOf n) r ∧ Fx.placeOf (fmtOf n) r < 1000 := by
  have h2 := (fmt_nums hn).2.1
  have h3 : (fmtOf n).binade = 2 ^ fb n := by unfold Ieee.Format.binade; rw [(fmt_nums hn).1]
  unfold Fx.placeOf
  rw [h2, h3]
  rcases hn with rfl | rfl
  · have e1 : lst 32 = -149 := rfl
    have e2 : fb 32 = 23 := rfl
    have e3 : infR 32 = 2139095040 := rfl
    rw [e1, e2]
    rw [e3] at h
    split <;> omega
  · have e1 : lst 64 = -1074 := rfl
    have e2 : fb 64 = 52 := rfl
    have e3 : infR 64 = 9218868437227405312 := rfl
    rw [e1, e2]
    rw [e3] at h
    split <;> omega
theorem w_u64 {n a : Nat} (hn : n = 32 ∨ n = 64) (ha : a < 2 ^ n) : a < 2 ^ 64 := Nat.lt_of_lt_of_le ha (Nat.pow_le_pow_right (by decide) (by rcases hn with rfl | rfl <;> decide))
theorem argsF_wf {n a b : Nat} {e : Int} (hn : n = 32 ∨ n = 64) (ha : a < 2 ^ n) (hb : b < 2 ^ n) : wfL (EG (vaM a b e)) 0 (argsF n) := by
  refine ⟨⟨?_, ?_, trivial⟩, ?_, ?_, trivial⟩
  · rcases hn with rfl | rfl <;> exact in_bits (by decide)
  · rcases hn with rfl | rfl <;> exact in_bits (by decide)
  · simp only [SV.wf]
    rw [wA_den ha]
    exact nat_u64 (w_u64 hn ha)
  · simp only [SV.wf]
    rw [wB_den hb]
    exact nat_u64 (w_u64 hn hb)
theorem argsF_den {n a b : Nat} {e : Int} (ha : a < 2 ^ n) (hb : b < 2 ^ n) : (denL (EG (vaM a b e)) loc0 (argsF n)).toArray = #[fmtVal n, .int .u64 (a : Int), .int .u64 (b : Int)] := by
  show #[fmtVal n, .int .u64 ((wA n).den (EG (vaM a b e))), .int .u64 ((wB n).den (EG (vaM a b e)))] = _
  rw [wA_den ha, wB_den hb]
theorem word_nat {n a : Nat} (ha : a < 2 ^ n) : wordOf n (a : Int) = a := by
  unfold wordOf
  rw [nat_md ha, Int.toNat_natCast]
theorem xorE_den {n a b : Nat} {e : Int} (hn : n = 32 ∨ n = 64) (ha : a < 2 ^ n) (hb : b < 2 ^ n) : decide ((xorE n).den (EG (vaM a b e)) ≠ 0) = (Fx.negOf (fmtOf n) a != Fx.negOf (fmtOf n) b) := by
  have h1 : (negE n (wA n)).den (EG (vaM a b e)) = if Fx.negOf (fmtOf n) a = true then 1 else 0 := by
    rw [negE_den _ hn (by rw [wA_den ha]; exact nat_u64 (w_u64 hn ha)), wA_den ha, word_nat ha]
  have h2 : (negE n (wB n)).den (EG (vaM a b e)) = if Fx.negOf (fmtOf n) b = true then 1 else 0 := by
    rw [negE_den _ hn (by rw [wB_den hb]; exact nat_u64 (w_u64 hn hb)), wB_den hb, word_nat hb]
  unfold xorE
  rw [mkNot_den, mkEqB_den, h1, h2]
  cases Fx.negOf (fmtOf n) a <;> cases Fx.negOf (fmtOf n) b <;> rfl
theorem mul_fin {n : Nat} (hn : n = 32 ∨ n = 64) {a b : Nat} (ha : a < 2 ^ n) (hb : b < 2 ^ n) (fa : rgI n a < infR n) (fb' : rgI n b < infR n) (w : World) :
    CX Tryz.prog 156 #[fmtVal n, .int .u64 (a : Int), .int .u64 (b : Int)] w (fun u w' => u = .int .u64 ((fmtOf n).word (Fx.negOf (fmtOf n) a != Fx.negOf (fmtOf n) b) (Fx.rung (fmtOf n) (Fx.magOf (fmtOf n) (rgI n a) * Fx.magOf (fmtOf n) (rgI n b)) (Fx.placeOf (fmtOf n) (rgI n a) + Fx.placeOf (fmtOf n) (rgI n b))) : Nat) ∧ Below w.heap.size w w') := by
  obtain ⟨hp, k, hr⟩ := isUE_ok (mul_f' hn)
  have pa := plc_fin hn fa
  have pb := plc_fin hn fb'
  have hlt := hi_lt (mag_lt hn (rgI n a)) (mag_lt hn (rgI n b))
  have hL := lenN_le (m := Fx.magOf (fmtOf n) (rgI n a) * Fx.magOf (fmtOf n) (rgI n b) / 2 ^ 64) (by omega)
  generalize he : Fx.placeOf (fmtOf n) (rgI n a) + Fx.placeOf (fmtOf n) (rgI n b) + (lenN (Fx.magOf (fmtOf n) (rgI n a) * Fx.magOf (fmtOf n) (rgI n b) / 2 ^ 64) : Nat) = e
  have hk : ∀ p ∈ mulKf n, p.1.den (EG (vaM a b e)) = p.2.den (EG (vaM a b e)) := by
    intro p hp
    simp only [mulKf, List.mem_cons, List.not_mem_nil, or_false] at hp
    rcases hp with rfl | rfl | rfl
    · show (mkEq (sA n) (.lit (.ofNat (infR n)))).den _ = (b01 false).den _
      refine eq_den ?_
      rw [sA_den]
      show false = decide (((rgI n (a : Int) : Nat) : Int) = ((infR n : Nat) : Int))
      rw [decide_eq_false (by omega)]
    · show (mkEq (sB n) (.lit (.ofNat (infR n)))).den _ = (b01 false).den _
      refine eq_den ?_
      rw [sB_den]
      show false = decide (((rgI n (b : Int) : Nat) : Int) = ((infR n : Nat) : Int))
      rw [decide_eq_false (by omega)]
    · have hlen := lenG_den (va := vaM a b e) (hiAB_den (e := e) hn ha hb) (by omega)
      show (mkWrap .i64 (mkAdd (mkWrap .i64 (mkAdd (plcE n (wA n)) (plcE n (wB n)))) (lenE (hiAB n)))).den _ = e13.den _
      rw [e13_den (by omega) (by omega), mkWrap_den, mkAdd_den, mkWrap_den, mkAdd_den, plcE_den hn, plcE_den hn, wA_den ha, wB_den hb, hlen]
      rw [wrap_i64 (x := Fx.placeOf (fmtOf n) (rgI n a) + Fx.placeOf (fmtOf n) (rgI n b)) (by omega) (by omega), wrap_i64 (by omega) (by omega)]
      exact he
  have hc := leafS_cx (E := EG (vaM a b e)) sumsG_ok hr hk (argsF_wf hn ha hb) w
  rw [argsF_den ha hb] at hc
  refine cx_mono hc fun v w' hv => ?_
  obtain ⟨⟨loc', h1⟩, h2, _⟩ := hv
  refine ⟨?_, h2⟩
  rw [h1]
  simp only [SV.den]
  rw [sgE_den hn (rngE_den hn false (zAB_den hn ha hb)), xorE_den hn ha hb, e13_den (by omega) (by omega), rngI_f, ← he, rung_mulZ _ (by rcases hn with rfl | rfl <;> decide) (by omega)]

end Sx
end Go.Proofs.YtfdggebddcoeeaaGreatDoor
end

/-
  The program's sum of two floats that are no NaN.
-/
set_option maxRecDepth 100000
noncomputable section
namespace Go.Proofs.YtfdggebddcoeeaaGreatDoor
namespace Sx
open Go Go.RowKit

def vaA (a b : Nat) (e d : Int) : Nat → Int
  | 0 => a
  | 1 => b
  | 2 => e + 5000
  | 3 => d
  | _ => 0
theorem rung_rg (n a : Nat) (hn : n = 32 ∨ n = 64) : Fx.rungOf (fmtOf n) a = rgI n (a : Int) := by
  rw [rgI_nat]
  unfold Fx.rungOf
  rw [fmt_sign hn]
theorem eqn_den {E : Env} {a b : SE} {x y : Nat} {t : Bool} (ha : a.den E = x) (hb : b.den E = y) (h : t = decide (x = y)) : (mkEq a b).den E = (b01 t).den E := by
  refine eq_den ?_
  rw [ha, hb, h]
  congr 1
  simp only [Int.natCast_inj]
theorem ltn_den {E : Env} {a b : SE} {x y : Nat} {t : Bool} (ha : a.den E = x) (hb : b.den E = y) (h : t = decide (x < y)) : (mkLt a b).den E = (b01 t).den E := by
  refine lt_den ?_
  rw [ha, hb, h]
  congr 1
  simp only [Int.ofNat_lt]
theorem lit_den (E : Env) (x : Nat) : (SE.lit (.ofNat x)).den E = (x : Int) := rfl
/-- jam does not see how far beyond 63 -/
theorem jam_min {m j : Nat} (h : m < 2 ^ 63) : Fx.jam m (min j 63) = Fx.jam m j := by
  by_cases hj : j ≤ 63
  · rw [Nat.min_eq_left hj]
  · rw [Nat.min_eq_right (by omega)]
    have h2 : 2 ^ 63 ≤ 2 ^ j := Nat.pow_le_pow_right (by decide) (by omega)
    unfold Fx.jam
    rw [Nat.mod_eq_of_lt h, Nat.mod_eq_of_lt (Nat.lt_of_lt_of_le h h2), Nat.div_eq_of_lt h, Nat.div_eq_of_lt (Nat.lt_of_lt_of_le h h2)]
theorem jam_le {m j : Nat} : Fx.jam m j ≤ m + 1 := by
  have h1 : m / 2 ^ j ≤ m := Nat.div_le_self _ _
  unfold Fx.jam
  split <;> omega
section
variable {n a b : Nat} {e d : Int} {sw : Bool}
theorem awA_den (ha : a < 2 ^ n) : (wA n).den (EG (vaA a b e d)) = a := nat_md ha
theorem awB_den (hb : b < 2 ^ n) : (wB n).den (EG (vaA a b e d)) = b := nat_md hb
theorem asA_den : (sA n).den (EG (vaA a b e d)) = (rgI n (a : Int) : Nat) := by
  rw [rgI_nat]
  show (a : Int) % 2 ^ (n - 1) = _
  push_cast
  rfl
theorem asB_den : (sB n).den (EG (vaA a b e d)) = (rgI n (b : Int) : Nat) := by
  rw [rgI_nat]
  show (b : Int) % 2 ^ (n - 1) = _
  push_cast
  rfl
theorem wP_den (ha : a < 2 ^ n) (hb : b < 2 ^ n) : (wP n sw).den (EG (vaA a b e d)) = (cond sw b a : Nat) := by
  cases sw
  · exact awA_den ha
  · exact awB_den hb
theorem wQ_den (ha : a < 2 ^ n) (hb : b < 2 ^ n) : (wQ n sw).den (EG (vaA a b e d)) = (cond sw a b : Nat) := by
  cases sw
  · exact awB_den hb
  · exact awA_den ha
theorem sP_den : (sP n sw).den (EG (vaA a b e d)) = (rgI n ((cond sw b a : Nat) : Int) : Nat) := by
  cases sw
  · exact asA_den
  · exact asB_den
theorem sQ_den : (sQ n sw).den (EG (vaA a b e d)) = (rgI n ((cond sw a b : Nat) : Int) : Nat) := by
  cases sw
  · exact asB_den
  · exact asA_den
theorem ae13_den (h1 : -5000 ≤ e) (h2 : e < 3192) : e13.den (EG (vaA a b e d)) = e := by
  show (e + 5000) % 2 ^ 13 - 5000 = e
  omega
theorem d12_den (h1 : 0 ≤ d) (h2 : d < 4096) : d12.den (EG (vaA a b e d)) = d := by
  show d % 2 ^ 12 = d
  omega
theorem aneg_den (hn : n = 32 ∨ n = 64) {x : SE} {p : Nat} (hp : p < 2 ^ n) (hx : x.den (EG (vaA a b e d)) = p) : (negE n x).den (EG (vaA a b e d)) = if Fx.negOf (fmtOf n) p = true then 1 else 0 := by
  rw [negE_den _ hn (by rw [hx]; exact nat_u64 (w_u64 hn hp)), hx, word_nat hp]
theorem op_den (hn : n = 32 ∨ n = 64) {x y : SE} {p q : Nat} (hp : p < 2 ^ n) (hq : q < 2 ^ n) (hx : x.den (EG (vaA a b e d)) = p) (hy : y.den (EG (vaA a b e d)) = q) : (mkNot (mkEqB (negE n x) (negE n y))).den (EG (vaA a b e d)) = (b01 (Fx.negOf (fmtOf n) p != Fx.negOf (fmtOf n) q)).den (EG (vaA a b e d)) := by
  rw [mkNot_den, mkEqB_den, aneg_den hn hp hx, aneg_den hn hq hy]
  cases Fx.negOf (fmtOf n) p <;> cases Fx.negOf (fmtOf n) q <;> rfl
theorem argsA_wf (hn : n = 32 ∨ n = 64) (ha : a < 2 ^ n) (hb : b < 2 ^ n) : wfL (EG (vaA a b e d)) 0 (argsF n) := by
  refine ⟨⟨?_, ?_, trivial⟩, ?_, ?_, trivial⟩
  · rcases hn with rfl | rfl <;> exact in_bits (by decide)
  · rcases hn with rfl | rfl <;> exact in_bits (by decide)
  · simp only [SV.wf]
    rw [awA_den ha]
    exact nat_u64 (w_u64 hn ha)
  · simp only [SV.wf]
    rw [awB_den hb]
    exact nat_u64 (w_u64 hn hb)
theorem argsA_den (ha : a < 2 ^ n) (hb : b < 2 ^ n) : (denL (EG (vaA a b e d)) loc0 (argsF n)).toArray = #[fmtVal n, .int .u64 (a : Int), .int .u64 (b : Int)] := by
  show #[fmtVal n, .int .u64 ((wA n).den (EG (vaA a b e d))), .int .u64 ((wB n).den (EG (vaA a b e d)))] = _
  rw [awA_den ha, awB_den hb]
theorem runA (hn : n = 32 ∨ n = 64) (ha : a < 2 ^ n) (hb : b < 2 ^ n) {f : FuncId} {ks : List (SE × SE)} {s : SE} (h : isUE (runV sumsG ks f (argsF n)) s = true) (hk : ∀ p ∈ ks, p.1.den (EG (vaA a b e d)) = p.2.den (EG (vaA a b e d))) (w : World) :
    CX Tryz.prog f #[fmtVal n, .int .u64 (a : Int), .int .u64 (b : Int)] w (fun u w' => u = .int .u64 (s.den (EG (vaA a b e d))) ∧ Below w.heap.size w w') := by
  obtain ⟨hp, k, hr⟩ := isUE_ok h
  have hc := leafS_cx (E := (EG (vaA a b e d))) sumsG_ok hr hk (argsA_wf hn ha hb) w
  rw [argsA_den ha hb] at hc
  refine cx_mono hc fun v w' hv => ?_
  obtain ⟨⟨loc', h1⟩, h2, _⟩ := hv
  exact ⟨h1, h2⟩
theorem addK_ok (hn : n = 32 ∨ n = 64) (ha : a < 2 ^ n) (hb : b < 2 ^ n) {op qz : Bool} {p q : Nat} (hp : p = cond sw b a) (hq : q = cond sw a b) (hsw : sw = decide (rgI n a < rgI n b)) (hfin : rgI n p < infR n)
    (hop : op = (Fx.negOf (fmtOf n) p != Fx.negOf (fmtOf n) q)) (hqz : qz = decide (rgI n q = 0)) (hz : rgI n q = 0 → rgI n p = 0)
    (hd : d = Fx.placeOf (fmtOf n) (rgI n p) - Fx.placeOf (fmtOf n) (rgI n q)) (he : e = Fx.placeOf (fmtOf n) (rgI n p) - 10) (hle : rgI n q ≤ rgI n p) : ∀ x ∈ addK n sw op qz, x.1.den (EG (vaA a b e d)) = x.2.den (EG (vaA a b e d)) := by
  have hpl : p < 2 ^ n := by rw [hp]; cases sw <;> assumption
  have hql : q < 2 ^ n := by rw [hq]; cases sw <;> assumption
  have hwP : (wP n sw).den (EG (vaA a b e d)) = (p : Nat) := by rw [wP_den ha hb, hp]
  have hwQ : (wQ n sw).den (EG (vaA a b e d)) = (q : Nat) := by rw [wQ_den ha hb, hq]
  have hsP : (sP n sw).den (EG (vaA a b e d)) = (rgI n p : Nat) := by rw [sP_den, hp]
  have hsQ : (sQ n sw).den (EG (vaA a b e d)) = (rgI n q : Nat) := by rw [sQ_den, hq]
  have pp := plc_fin hn hfin
  have pq := plc_fin hn (show rgI n q < infR n by omega)
  have hmono := Fx.place_mono (fmtOf n) hle
  have hplP : (plcE n (wP n sw)).den (EG (vaA a b e d)) = Fx.placeOf (fmtOf n) (rgI n p) := by rw [plcE_den hn, hwP]
  have hplQ : (plcE n (wQ n sw)).den (EG (vaA a b e d)) = Fx.placeOf (fmtOf n) (rgI n q) := by rw [plcE_den hn, hwQ]
  intro x hx
  simp only [addK, List.mem_append, List.mem_cons, List.not_mem_nil, or_false] at hx
  rcases hx with (rfl | rfl | rfl | rfl | rfl | rfl) | hx
  · exact ltn_den asA_den asB_den hsw
  · show (mkEq (sP n sw) (.lit (.ofNat (infR n)))).den (EG (vaA a b e d)) = (b01 false).den (EG (vaA a b e d))
    exact eqn_den hsP (lit_den _ _) (decide_eq_false (by omega)).symm
  · exact eqn_den hsQ (lit_den _ 0) hqz
  · show (mkNot (mkEqB (negE n (wP n sw)) (negE n (wQ n sw)))).den (EG (vaA a b e d)) = (b01 op).den (EG (vaA a b e d))
    rw [hop]
    exact op_den hn hpl hql hwP hwQ
  · show (mkWrap .i64 (mkSub (plcE n (wP n sw)) (plcE n (wQ n sw)))).den (EG (vaA a b e d)) = d12.den (EG (vaA a b e d))
    rw [d12_den (by omega) (by omega), mkWrap_den, mkSub_den, hplP, hplQ, wrap_i64 (by omega) (by omega), hd]
  · show (mkWrap .i64 (mkSub (plcE n (wP n sw)) (.lit 10))).den (EG (vaA a b e d)) = e13.den (EG (vaA a b e d))
    have h10 : (SE.lit 10).den (EG (vaA a b e d)) = 10 := rfl
    rw [ae13_den (by omega) (by omega), mkWrap_den, mkSub_den, hplP, h10, wrap_i64 (by omega) (by omega), he]
  · cases hqq : qz
    · rw [hqq] at hx; cases hx
    · rw [hqq] at hx hqz
      simp only [cond_true, List.mem_cons, List.not_mem_nil, or_false] at hx
      subst hx
      have h0 := hz (of_decide_eq_true hqz.symm)
      show (mkLt (.lit 0) (sP n sw)).den (EG (vaA a b e d)) = (b01 false).den (EG (vaA a b e d))
      exact ltn_den (lit_den _ 0) hsP (decide_eq_false (by omega)).symm
end
theorem magb_le {n : Nat} (hn : n = 32 ∨ n = 64) (r : Nat) : Fx.magOf (fmtOf n) r < 2 ^ (fb n + 1) := by
  have h1 : (fmtOf n).binade = 2 ^ fb n := by unfold Ieee.Format.binade; rw [(fmt_nums hn).1]
  unfold Fx.magOf
  rw [h1, Nat.pow_succ]
  have := Nat.mod_lt r (Nat.two_pow_pos (fb n))
  split <;> omega
/-- a place above another one: the number is a full one -/
theorem mag_full {n : Nat} (hn : n = 32 ∨ n = 64) {r s : Nat} (h : Fx.placeOf (fmtOf n) s < Fx.placeOf (fmtOf n) r) : 2 ^ fb n ≤ Fx.magOf (fmtOf n) r := by
  have h1 : (fmtOf n).binade = 2 ^ fb n := by unfold Ieee.Format.binade; rw [(fmt_nums hn).1]
  have hg := Fx.place_ge (fmtOf n) s
  by_cases hr : r < (fmtOf n).binade
  · exfalso
    have : Fx.placeOf (fmtOf n) r = (fmtOf n).leastPlace := by unfold Fx.placeOf; rw [if_pos hr]; simp
    omega
  · unfold Fx.magOf
    rw [if_neg hr, h1]
    omega
theorem add_num {n : Nat} (hn : n = 32 ∨ n = 64) {a b p q : Nat} {sw : Bool} (ha : a < 2 ^ n) (hb : b < 2 ^ n) (hp : p = cond sw b a) (hq : q = cond sw a b) (hsw : sw = decide (rgI n a < rgI n b)) (hfin : rgI n p < infR n) (hz : rgI n q = 0 → rgI n p = 0) (hle : rgI n q ≤ rgI n p) (w : World) :
    CX Tryz.prog 155 #[fmtVal n, .int .u64 (a : Int), .int .u64 (b : Int)] w (fun u w' => u = .int .u64 (Fx.addW (fmtOf n) p q : Nat) ∧ Below w.heap.size w w') := by
  have hpl : p < 2 ^ n := by rw [hp]; cases sw <;> assumption
  have hql : q < 2 ^ n := by rw [hq]; cases sw <;> assumption
  have hx := magb_le hn (rgI n p)
  have hy := magb_le hn (rgI n q)
  have hx53 := mag_lt hn (rgI n p)
  have hy53 := mag_lt hn (rgI n q)
  have hu := Fx.mag_units_le (fmtOf n) hle
  have hfull : (Fx.placeOf (fmtOf n) (rgI n p) - Fx.placeOf (fmtOf n) (rgI n q)).toNat ≠ 0 → 2 ^ (fmtOf n).fractionBits ≤ Fx.magOf (fmtOf n) (rgI n p) := fun h => by
    rw [(fmt_nums hn).1]
    exact mag_full hn (s := rgI n q) (by omega)
  have pp := plc_fin hn hfin
  have pq := plc_fin hn (show rgI n q < infR n by omega)
  have hmono := Fx.place_mono (fmtOf n) hle
  have hRp := rung_rg n p hn
  have hRq := rung_rg n q hn
  generalize hD : Fx.placeOf (fmtOf n) (rgI n p) - Fx.placeOf (fmtOf n) (rgI n q) = d at *
  generalize hE : Fx.placeOf (fmtOf n) (rgI n p) - 10 = e
  have hwP : (wP n sw).den (EG (vaA a b e d)) = (p : Nat) := by rw [wP_den ha hb, hp]
  have hwQ : (wQ n sw).den (EG (vaA a b e d)) = (q : Nat) := by rw [wQ_den ha hb, hq]
  have hxP : (xP n sw).den (EG (vaA a b e d)) = (Fx.magOf (fmtOf n) (rgI n p) * 2 ^ 10 : Nat) := by
    show (magE n (wP n sw)).den (EG (vaA a b e d)) * 2 ^ 10 = _
    rw [magE_den hn, hwP]
    push_cast
    rfl
  have hyQ : (yQ n sw).den (EG (vaA a b e d)) = (Fx.jam (Fx.magOf (fmtOf n) (rgI n q) * 2 ^ 10) d.toNat : Nat) := by
    have h1 : (SE.shl (magE n (wQ n sw)) (.lit 10)).den (EG (vaA a b e d)) = (Fx.magOf (fmtOf n) (rgI n q) * 2 ^ 10 : Nat) := by
      show (magE n (wQ n sw)).den (EG (vaA a b e d)) * 2 ^ 10 = _
      rw [magE_den hn, hwQ]
      push_cast
      rfl
    unfold yQ
    rw [jamE_den h1 (by omega), d12_den (by omega) (by omega), jam_min (by omega)]
  have hjl := jam_le (m := Fx.magOf (fmtOf n) (rgI n q) * 2 ^ 10) (j := d.toNat)
  have hneg := aneg_den (a := a) (b := b) (e := e) (d := d) hn hpl hwP
  have hdec : decide ((negE n (wP n sw)).den (EG (vaA a b e d)) ≠ 0) = Fx.negOf (fmtOf n) p := by
    rw [hneg]
    cases Fx.negOf (fmtOf n) p <;> rfl
  have hmem : ∀ qz, (qz = true → sw = false) → (sw, qz) ∈ [(false, false), (true, false), (false, true)] := by
    intro qz hh
    cases sw <;> cases qz <;> first | decide | (exfalso; have := hh rfl; cases this)
  have hqzsw : decide (rgI n q = 0) = true → sw = false := fun h => by
    have h0 := of_decide_eq_true h
    have h1 := hz h0
    cases hsw' : sw
    · rfl
    · rw [hsw'] at hp hq hsw
      simp only [cond_true] at hp hq
      rw [hp] at h1
      rw [hq] at h0
      have := of_decide_eq_true hsw.symm
      omega
  have hkeys := addK_ok (d := d) (e := e) (sw := sw) hn ha hb hp hq hsw hfin rfl rfl hz hD.symm hE.symm hle
  have hb2 : e = Fx.placeOf (fmtOf n) (rgI n q) + (d.toNat : Nat) - 10 := by omega
  unfold Fx.addW Fx.addS Fx.addN
  rw [hRp, hRq, hD]
  cases hop : (Fx.negOf (fmtOf n) p != Fx.negOf (fmtOf n) q)
  · rw [hop] at hkeys
    have heq : (Fx.negOf (fmtOf n) p == Fx.negOf (fmtOf n) q) = true := by simpa [bne] using hop
    rw [heq]
    refine cx_mono (runA hn ha hb (List.all_eq_true.1 (List.all_eq_true.1 add_f n (mem_n hn)) (sw, decide (rgI n q = 0)) (hmem _ hqzsw)) hkeys w) fun u w' ⟨h1, h2⟩ => ⟨?_, h2⟩
    rw [h1]
    have hsum : (SE.wrap .u64 (.add (xP n sw) (yQ n sw))).den (EG (vaA a b e d)) = (Fx.magOf (fmtOf n) (rgI n p) * 2 ^ 10 + Fx.jam (Fx.magOf (fmtOf n) (rgI n q) * 2 ^ 10) d.toNat : Nat) := by
      show IntKind.u64.wrap ((xP n sw).den _ + (yQ n sw).den _) = _
      rw [hxP, hyQ, wrap_u64]
      omega
    rw [sgE_den hn (rngE_den hn false hsum), hdec, ae13_den (by omega) (by omega), rngI_f, hb2, Fx.rung_sum _ hfull]
    rfl
  · rw [hop] at hkeys
    have heq : (Fx.negOf (fmtOf n) p == Fx.negOf (fmtOf n) q) = false := by simpa [bne] using hop
    rw [heq]
    obtain ⟨g1, g2, g3⟩ := Fx.rung_diff (fmtOf n) (k := d.toNat) (d := Fx.placeOf (fmtOf n) (rgI n q)) hfull (by rw [(fmt_nums hn).1]; exact hy) hu
    refine cx_mono (runA hn ha hb (List.all_eq_true.1 (List.all_eq_true.1 add_o n (mem_n hn)) (sw, decide (rgI n q = 0)) (hmem _ hqzsw)) hkeys w) fun u w' ⟨h1, h2⟩ => ⟨?_, h2⟩
    rw [h1]
    have hsub : (SE.wrap .u64 (.sub (xP n sw) (yQ n sw))).den (EG (vaA a b e d)) = (Fx.magOf (fmtOf n) (rgI n p) * 2 ^ 10 - Fx.jam (Fx.magOf (fmtOf n) (rgI n q) * 2 ^ 10) d.toNat : Nat) := by
      show IntKind.u64.wrap ((xP n sw).den _ - (yQ n sw).den _) = _
      rw [hxP, hyQ, wrap_u64]
      omega
    have hR : (rngE n false (.wrap .u64 (.sub (xP n sw) (yQ n sw))) e13).den (EG (vaA a b e d)) = (Fx.rung (fmtOf n) (Fx.magOf (fmtOf n) (rgI n p) * 2 ^ d.toNat - Fx.magOf (fmtOf n) (rgI n q)) (Fx.placeOf (fmtOf n) (rgI n q)) : Nat) := by
      rw [rngE_den (b := e13) hn false hsub, ae13_den (by omega) (by omega), rngI_f, hb2, g1]
    have hcmp : decide ((SE.eq (.eq (xP n sw) (yQ n sw)) (.lit 0)).den (EG (vaA a b e d)) ≠ 0) = decide (Fx.magOf (fmtOf n) (rgI n p) * 2 ^ d.toNat ≠ Fx.magOf (fmtOf n) (rgI n q)) := by
      show decide ((if (if (xP n sw).den _ = (yQ n sw).den _ then (1 : Int) else 0) = 0 then (1 : Int) else 0) ≠ 0) = _
      rw [hxP, hyQ]
      by_cases hc : Fx.magOf (fmtOf n) (rgI n p) * 2 ^ d.toNat = Fx.magOf (fmtOf n) (rgI n q)
      · have hc' := g2.2 hc
        simp [hc, ← hc']
      · have hc' : ¬ Fx.magOf (fmtOf n) (rgI n p) * 2 ^ 10 = Fx.jam (Fx.magOf (fmtOf n) (rgI n q) * 2 ^ 10) d.toNat := fun h => hc (g2.1 h)
        have hi : ¬ ((Fx.magOf (fmtOf n) (rgI n p) * 2 ^ 10 : Nat) : Int) = ((Fx.jam (Fx.magOf (fmtOf n) (rgI n q) * 2 ^ 10) d.toNat : Nat) : Int) := fun h => hc' (Int.natCast_inj.1 h)
        simp only [if_neg hi, decide_eq_true hc]
        decide
    have hite : (SE.ite (negE n (wP n sw)) (sgE n (.eq (.eq (xP n sw) (yQ n sw)) (.lit 0)) (subR n sw)) (sgE n (.lit 0) (subR n sw))).den (EG (vaA a b e d)) =
        if (negE n (wP n sw)).den (EG (vaA a b e d)) = 0 then (sgE n (.lit 0) (subR n sw)).den (EG (vaA a b e d)) else (sgE n (.eq (.eq (xP n sw) (yQ n sw)) (.lit 0)) (subR n sw)).den (EG (vaA a b e d)) := rfl
    rw [hite, hneg]
    unfold subR
    cases hs : Fx.negOf (fmtOf n) p
    · rw [if_pos (show (if false = true then (1 : Int) else 0) = 0 from rfl), sgE_den hn hR]
      rfl
    · rw [if_neg (show ¬ (if true = true then (1 : Int) else 0) = 0 by decide), sgE_den hn hR, hcmp]
      rfl
/-- the program's sum -/
theorem add_full {n : Nat} (hn : n = 32 ∨ n = 64) {a b : Nat} (ha : a < 2 ^ n) (hb : b < 2 ^ n) (na : rgI n a ≤ infR n) (nb : rgI n b ≤ infR n) (w : World) :
    CX Tryz.prog 155 #[fmtVal n, .int .u64 (a : Int), .int .u64 (b : Int)] w (fun u w' => u = .int .u64 (((fmtOf n).add a b).getD (nanR n) : Nat) ∧ Below w.heap.size w w') := by
  have he : 2 ≤ (fmtOf n).exponentBits := fmt_exp
  have hinf : (fmtOf n).infRung = infR n := (fmt_nums hn).2.2.2
  have h2w : (2 : Nat) ^ n = 2 * (fmtOf n).signWeight := by rw [fmt_sign hn]; rcases hn with rfl | rfl <;> decide
  obtain ⟨sw, hsw⟩ : ∃ sw, sw = decide (rgI n a < rgI n b) := ⟨_, rfl⟩
  obtain ⟨p, hp⟩ : ∃ p, p = cond sw b a := ⟨_, rfl⟩
  obtain ⟨q, hq⟩ : ∃ q, q = cond sw a b := ⟨_, rfl⟩
  have hpl : p < 2 ^ n := by rw [hp]; cases sw <;> assumption
  have hle : rgI n q ≤ rgI n p := by
    rw [hp, hq]
    cases h : sw
    · rw [h] at hsw
      have := of_decide_eq_false hsw.symm
      simp only [cond_false]
      omega
    · rw [h] at hsw
      have := of_decide_eq_true hsw.symm
      simp only [cond_true]
      omega
  have np : rgI n p ≤ infR n := by rw [hp]; cases sw <;> assumption
  have hRp := rung_rg n p hn
  have hRq := rung_rg n q hn
  have hswap : ∀ r : Option Nat, (fmtOf n).add p q = r ∧ (fmtOf n).add q p = r → (fmtOf n).add a b = r := by
    intro r ⟨h1, h2⟩
    rw [hp, hq] at h1 h2
    cases h : sw <;> rw [h] at h1 h2 <;> simp only [cond_true, cond_false] at h1 h2
    · exact h1
    · exact h2
  have hmem : sw ∈ [false, true] := by cases sw <;> decide
  rcases Nat.lt_or_eq_of_le np with hfin | hi
  · have hmod := Fx.add_num_ge (fmtOf n) he (p := p) (q := q) (by rw [hRp, hinf]; exact hfin) (by rw [hRp, hRq]; exact hle)
    rw [hswap _ hmod]
    by_cases hz : rgI n q = 0 ∧ rgI n p ≠ 0
    · have hself := Fx.addW_zero (fmtOf n) (p := p) (q := q) (by rw [← h2w]; exact hpl) (by rw [hRp, hinf]; exact hfin) (by rw [hRp]; exact hz.2) (by rw [hRq]; exact hz.1)
      rw [hself]
      refine cx_mono (runA (e := 0) (d := 0) hn ha hb (List.all_eq_true.1 (List.all_eq_true.1 add_z n (mem_n hn)) sw hmem) ?_ w) fun u w' ⟨h1, h2⟩ => ⟨?_, h2⟩
      · intro x hx
        simp only [addKz, List.mem_cons, List.not_mem_nil, or_false] at hx
        rcases hx with rfl | rfl | rfl | rfl
        · exact ltn_den asA_den asB_den hsw
        · show (mkEq (sP n sw) (.lit (.ofNat (infR n)))).den _ = (b01 false).den _
          exact eqn_den sP_den (lit_den _ _) (by rw [← hp]; exact (decide_eq_false (by omega)).symm)
        · show (mkEq (sQ n sw) (.lit 0)).den _ = (b01 true).den _
          exact eqn_den sQ_den (lit_den _ 0) (by rw [← hq]; exact (decide_eq_true hz.1).symm)
        · show (mkLt (.lit 0) (sP n sw)).den _ = (b01 true).den _
          exact ltn_den (lit_den _ 0) sP_den (by rw [← hp]; exact (decide_eq_true (by omega)).symm)
      · rw [h1, wP_den ha hb, ← hp]
        rfl
    · refine cx_mono (add_num hn ha hb hp hq hsw hfin (fun h => ?_) hle w) fun u w' ⟨h1, h2⟩ => ⟨h1, h2⟩
      by_cases h' : rgI n p = 0
      · exact h'
      · exact absurd ⟨h, h'⟩ hz
  · have hnq : rgI n q ≤ infR n := by omega
    have hmod := Fx.add_inf (fmtOf n) he (p := p) (q := q) (by rw [← h2w]; exact hpl) (by rw [hRp, hinf]; exact hi) (by rw [hRq, hinf]; exact hnq)
    rw [hswap _ hmod, hRq, hinf]
    have hql : q < 2 ^ n := by rw [hq]; cases sw <;> assumption
    refine cx_mono (runA (e := 0) (d := 0) hn ha hb (List.all_eq_true.1 (List.all_eq_true.1 (List.all_eq_true.1 (List.all_eq_true.1 add_i n (mem_n hn)) sw hmem) (Fx.negOf (fmtOf n) p != Fx.negOf (fmtOf n) q) (by cases (Fx.negOf (fmtOf n) p != Fx.negOf (fmtOf n) q) <;> decide)) (decide (rgI n q = infR n)) (by cases decide (rgI n q = infR n) <;> decide)) ?_ w) fun u w' ⟨h1, h2⟩ => ⟨?_, h2⟩
    · intro x hx
      simp only [addKi, List.mem_cons, List.not_mem_nil, or_false] at hx
      rcases hx with rfl | rfl | rfl | rfl
      · exact ltn_den asA_den asB_den hsw
      · show (mkEq (sP n sw) (.lit (.ofNat (infR n)))).den _ = (b01 true).den _
        exact eqn_den sP_den (lit_den _ _) (by rw [← hp]; exact (decide_eq_true hi).symm)
      · exact op_den hn hpl hql (by rw [wP_den ha hb, hp]) (by rw [wQ_den ha hb, hq])
      · exact eqn_den sQ_den (lit_den _ _) (by rw [← hq])
    · rw [h1]
      have hlit : (SE.lit (.ofNat (nanR n))).den (EG (vaA a b 0 0)) = (nanR n : Nat) := rfl
      have hwp : (wP n sw).den (EG (vaA a b 0 0)) = (p : Nat) := by rw [wP_den ha hb, hp]
      by_cases c1 : rgI n q = infR n <;> cases Fx.negOf (fmtOf n) p <;> cases Fx.negOf (fmtOf n) q <;> simp [c1, hwp] <;> exact hlit

end Sx
end Go.Proofs.YtfdggebddcoeeaaGreatDoor
end

/-
  The program's whole numbers near a float that is no NaN.
-/
set_option maxRecDepth 100000
noncomputable section
namespace Go.Proofs.YtfdggebddcoeeaaGreatDoor
namespace Sx
open Go Go.RowKit

def vaW (a d b m : Nat) : Nat → Int
  | 0 => a
  | 3 => d
  | 4 => b
  | 5 => (2 ^ b : Nat)
  | 6 => (2 ^ b - 1 : Nat)
  | 7 => (m % 2 ^ b : Nat)
  | 8 => (b - 1 : Nat)
  | 9 => (2 ^ (b - 1) : Nat)
  | 10 => (m / 2 ^ b : Nat)
  | 11 => (m / 2 ^ b + 1 : Nat)
  | _ => 0
theorem and_maskN {x k : Nat} (hx : x < 2 ^ 64) (hk : k < 64) : bitsI .and .u64 (x : Int) ((2 ^ k - 1 : Nat) : Int) = (x % 2 ^ k : Nat) := by
  have h1 : x % 2 ^ k ≤ x := Nat.mod_le _ _
  refine eq_of_bits 64 (bitsI_range (k := .u64) rfl _ _) ⟨by omega, by omega⟩ fun i hi => ?_
  rw [ibit_and (k := .u64) rfl _ _ hi, ibit_nat, ibit_nat, ibit_nat, Nat.testBit_two_pow_sub_one, Nat.testBit_mod_two_pow]
  cases decide (i < k) <;> cases x.testBit i <;> rfl
def wayOf (op : Nat) : Ieee.Toward := match op with
  | 4 => .up
  | 5 => .down
  | 6 => .zero
  | _ => .even
theorem aneg_den' {va : Nat → Int} {n : Nat} (hn : n = 32 ∨ n = 64) {x : SE} {p : Nat} (hp : p < 2 ^ n) (hx : x.den (EG va) = p) : (negE n x).den (EG va) = if Fx.negOf (fmtOf n) p = true then 1 else 0 := by
  rw [negE_den _ hn (by rw [hx]; exact nat_u64 (w_u64 hn hp)), hx, word_nat hp]
section
variable {n a d b m : Nat}
theorem wwA_den (ha : a < 2 ^ n) : (wA n).den (EG (vaW a d b m)) = a := nat_md ha
theorem wsA_den : (sA n).den (EG (vaW a d b m)) = (rgI n (a : Int) : Nat) := by
  rw [rgI_nat]
  show (a : Int) % 2 ^ (n - 1) = _
  push_cast
  rfl
theorem argsW_wf (hn : n = 32 ∨ n = 64) {op : Nat} (ho : op < 100) (ha : a < 2 ^ n) : wfL (EG (vaW a d b m)) 0 (argsW n op) := by
  refine ⟨⟨?_, ?_, trivial⟩, in_bits ho, ?_, trivial⟩
  · rcases hn with rfl | rfl <;> exact in_bits (by decide)
  · rcases hn with rfl | rfl <;> exact in_bits (by decide)
  · simp only [SV.wf]
    rw [wwA_den ha]
    exact nat_u64 (w_u64 hn ha)
theorem argsW_den {op : Nat} (ha : a < 2 ^ n) : (denL (EG (vaW a d b m)) loc0 (argsW n op)).toArray = #[fmtVal n, .int .i64 op, .int .u64 (a : Int)] := by
  show #[fmtVal n, .int .i64 op, .int .u64 ((wA n).den (EG (vaW a d b m)))] = _
  rw [wwA_den ha]
theorem runW (hn : n = 32 ∨ n = 64) {op : Nat} (ho : op < 100) (ha : a < 2 ^ n) {ks : List (SE × SE)} {s : SE} (h : isUE (runV sumsG ks 146 (argsW n op)) s = true) (hk : ∀ p ∈ ks, p.1.den (EG (vaW a d b m)) = p.2.den (EG (vaW a d b m))) (w : World) :
    CX Tryz.prog 146 #[fmtVal n, .int .i64 op, .int .u64 (a : Int)] w (fun u w' => u = .int .u64 (s.den (EG (vaW a d b m))) ∧ Below w.heap.size w w') := by
  obtain ⟨hp, k, hr⟩ := isUE_ok h
  have hc := leafS_cx (E := (EG (vaW a d b m))) sumsG_ok hr hk (argsW_wf hn ho ha) w
  rw [argsW_den ha] at hc
  refine cx_mono hc fun v w' hv => ?_
  obtain ⟨⟨loc', h1⟩, h2, _⟩ := hv
  exact ⟨h1, h2⟩
theorem md_nat {E : Env} {i k x : Nat} (h : E.va i = (x : Int)) (hx : x < 2 ^ k) : (SE.md (.var i) k).den E = (x : Int) := by
  show E.va i % 2 ^ k = _
  rw [h]
  exact nat_md hx
theorem nlt_den {E : Env} {x y : SE} {p q : Nat} {t : Bool} (hx : x.den E = p) (hy : y.den E = q) (h : t = decide (¬ p < q)) : (mkNot (mkLt x y)).den E = (b01 t).den E := by
  refine not_lt_den ?_
  rw [hx, hy, h]
  congr 1
  simp only [Int.ofNat_lt]
theorem p2_den (hb : b < 64) : p2E.den (EG (vaW a d b m)) = (2 ^ b : Nat) := md_nat rfl (Nat.pow_lt_pow_right (by decide) hb)
theorem mk_den (hb : b < 64) : mkE.den (EG (vaW a d b m)) = (2 ^ b - 1 : Nat) := md_nat rfl (by have := Nat.pow_lt_pow_right (show 1 < 2 by decide) hb; omega)
theorem rs_den (hm : m < 2 ^ 53) : rsE.den (EG (vaW a d b m)) = (m % 2 ^ b : Nat) := md_nat rfl (by have := Nat.mod_le m (2 ^ b); omega)
theorem b1_den (hb : b < 64) : b1E.den (EG (vaW a d b m)) = (b - 1 : Nat) := md_nat rfl (by omega)
theorem hf_den (hb : b < 64) : hfE.den (EG (vaW a d b m)) = (2 ^ (b - 1) : Nat) := md_nat rfl (Nat.pow_lt_pow_right (by decide) (by omega))
theorem qt_den (hm : m < 2 ^ 53) : qtE.den (EG (vaW a d b m)) = (m / 2 ^ b : Nat) := md_nat rfl (by have := Nat.div_le_self m (2 ^ b); omega)
theorem q1_den (hm : m < 2 ^ 53) : q1E.den (EG (vaW a d b m)) = (m / 2 ^ b + 1 : Nat) := md_nat rfl (by have := Nat.div_le_self m (2 ^ b); omega)
theorem by_den (hb : b < 64) : byE.den (EG (vaW a d b m)) = (b : Nat) := md_nat rfl (by omega)
theorem wd_den (hd : d < 4096) : wd12.den (EG (vaW a d b m)) = (d : Nat) := md_nat rfl (by omega)
theorem whK_ok (hn : n = 32 ∨ n = 64) (ha : a < 2 ^ n) {ng : Bool} (hng : ng = Fx.negOf (fmtOf n) a) (hfin : rgI n a < infR n) (hr0 : rgI n a ≠ 0) (hd : Fx.placeOf (fmtOf n) (rgI n a) = -(d : Int)) (hd1 : 1 ≤ d) (hb : b = min d 63) (hm : m = Fx.magOf (fmtOf n) (rgI n a)) :
    ∀ x ∈ whK n ng, x.1.den (EG (vaW a d b m)) = x.2.den (EG (vaW a d b m)) := by
  have hm53 : m < 2 ^ 53 := by rw [hm]; exact mag_lt hn _
  have hpl := plc_fin hn hfin
  have hb1 : 1 ≤ b ∧ b ≤ 63 := by omega
  have hplc : (plcE n (wA n)).den (EG (vaW a d b m)) = -(d : Int) := by rw [plcE_den hn, wwA_den ha, hd]
  have hmag : (magE n (wA n)).den (EG (vaW a d b m)) = (m : Nat) := by rw [magE_den hn, wwA_den ha, hm]
  have hm0 : m ≠ 0 := fun h => hr0 ((Fx.mag_zero (fmtOf n)).1 (hm ▸ h))
  have hpow : 2 ^ b < 2 ^ 64 := Nat.pow_lt_pow_right (by decide) (by omega)
  have hpow1 : 2 ^ (b - 1) < 2 ^ 64 := Nat.pow_lt_pow_right (by decide) (by omega)
  have hpos := Nat.two_pow_pos b
  have hpos1 := Nat.two_pow_pos (b - 1)
  intro x hx
  simp only [whK, List.mem_cons, List.not_mem_nil, or_false] at hx
  rcases hx with rfl | rfl | rfl | rfl | rfl | rfl | rfl | rfl | rfl | rfl | rfl | rfl | rfl
  · show (mkNot (mkLt (sA n) (.lit (.ofNat (infR n))))).den (EG (vaW a d b m)) = (b01 false).den (EG (vaW a d b m))
    exact nlt_den wsA_den (lit_den _ _) (decide_eq_false (by omega)).symm
  · show (mkNot (mkLt (plcE n (wA n)) (.lit 0))).den (EG (vaW a d b m)) = (b01 false).den (EG (vaW a d b m))
    refine not_lt_den ?_
    rw [hplc]
    show false = decide (¬ -(d : Int) < 0)
    exact (decide_eq_false (by omega)).symm
  · show (mkEq (magE n (wA n)) (.lit 0)).den (EG (vaW a d b m)) = (b01 false).den (EG (vaW a d b m))
    exact eqn_den hmag (lit_den _ 0) (decide_eq_false hm0).symm
  · show (mkWrap .i64 (mkSub (.lit 0) (plcE n (wA n)))).den (EG (vaW a d b m)) = wd12.den (EG (vaW a d b m))
    have h0 : (SE.lit 0).den (EG (vaW a d b m)) = 0 := rfl
    rw [wd_den (by omega), mkWrap_den, mkSub_den, hplc, h0, wrap_i64 (by omega) (by omega)]
    omega
  · show (mkIte (mkLt (.lit 63) wd12) (.lit 63) wd12).den (EG (vaW a d b m)) = byE.den (EG (vaW a d b m))
    have h63 : (SE.lit 63).den (EG (vaW a d b m)) = 63 := rfl
    rw [by_den (by omega)]
    by_cases h : 63 < d
    · rw [ite_lt_pos (by rw [wd_den (by omega), h63]; omega), h63]
      omega
    · rw [ite_lt_neg (by rw [wd_den (by omega), h63]; omega), wd_den (by omega)]
      omega
  · show (SE.wrap .u64 (.shl (.lit 1) (amt .u64 byE))).den (EG (vaW a d b m)) = p2E.den (EG (vaW a d b m))
    rw [p2_den (by omega)]
    show IntKind.u64.wrap (1 * 2 ^ ((amt .u64 byE).den (EG (vaW a d b m))).toNat) = _
    rw [amt_den (by_den (by omega)) (by omega), Int.toNat_natCast, wrap_u64, Int.one_mul]
    have : ((2 ^ b : Nat) : Int) = 2 ^ b := by push_cast; rfl
    omega
  · show (mkWrap .u64 (mkSub p2E (.lit 1))).den (EG (vaW a d b m)) = mkE.den (EG (vaW a d b m))
    have h1 : (SE.lit 1).den (EG (vaW a d b m)) = 1 := rfl
    rw [mk_den (by omega), mkWrap_den, mkSub_den, p2_den (by omega), h1, wrap_u64]
    omega
  · show (mkAnd .u64 (magE n (wA n)) mkE).den (EG (vaW a d b m)) = rsE.den (EG (vaW a d b m))
    rw [rs_den hm53, mkAnd_den _ .u64 _ _ (by rw [hmag]; exact nat_u64 (by omega)) (by rw [mk_den (by omega)]; exact nat_u64 (by omega)), hmag, mk_den (by omega)]
    exact and_maskN (by omega) (by omega)
  · show (mkWrap .i64 (mkSub byE (.lit 1))).den (EG (vaW a d b m)) = b1E.den (EG (vaW a d b m))
    have h1 : (SE.lit 1).den (EG (vaW a d b m)) = 1 := rfl
    rw [b1_den (by omega), mkWrap_den, mkSub_den, by_den (by omega), h1, wrap_i64 (by omega) (by omega)]
    omega
  · show (SE.wrap .u64 (.shl (.lit 1) (amt .u64 b1E))).den (EG (vaW a d b m)) = hfE.den (EG (vaW a d b m))
    rw [hf_den (by omega)]
    show IntKind.u64.wrap (1 * 2 ^ ((amt .u64 b1E).den (EG (vaW a d b m))).toNat) = _
    rw [amt_den (b1_den (by omega)) (by omega), Int.toNat_natCast, wrap_u64, Int.one_mul]
    have : ((2 ^ (b - 1) : Nat) : Int) = 2 ^ (b - 1) := by push_cast; rfl
    rw [← this]
    omega
  · show (SE.shr (magE n (wA n)) (amt .u64 byE)).den (EG (vaW a d b m)) = qtE.den (EG (vaW a d b m))
    rw [qt_den hm53]
    show (magE n (wA n)).den (EG (vaW a d b m)) / 2 ^ ((amt .u64 byE).den (EG (vaW a d b m))).toNat = _
    rw [amt_den (by_den (by omega)) (by omega), Int.toNat_natCast, hmag]
    push_cast
    rfl
  · show (mkWrap .u64 (mkAdd qtE (.lit 1))).den (EG (vaW a d b m)) = q1E.den (EG (vaW a d b m))
    have h1 : (SE.lit 1).den (EG (vaW a d b m)) = 1 := rfl
    have hq := Nat.div_le_self m (2 ^ b)
    rw [q1_den hm53, mkWrap_den, mkAdd_den, qt_den hm53, h1, wrap_u64]
    generalize m / 2 ^ b = q at *
    omega
  · show (negE n (wA n)).den (EG (vaW a d b m)) = (b01 ng).den (EG (vaW a d b m))
    rw [aneg_den' hn ha (wwA_den ha), hng]
    cases Fx.negOf (fmtOf n) a <;> rfl
end
theorem whole_num {n : Nat} (hn : n = 32 ∨ n = 64) {op : Nat} (hop : op = 4 ∨ op = 5 ∨ op = 6 ∨ op = 7) {a : Nat} (ha : a < 2 ^ n) (hfin : rgI n a < infR n) (hr0 : rgI n a ≠ 0) (hp : Fx.placeOf (fmtOf n) (rgI n a) < 0) (w : World) :
    CX Tryz.prog 146 #[fmtVal n, .int .i64 op, .int .u64 (a : Int)] w (fun u w' => u = .int .u64 (Fx.wholeW (fmtOf n) (wayOf op) a : Nat) ∧ Below w.heap.size w w') := by
  have he : 2 ≤ (fmtOf n).exponentBits := fmt_exp
  have hinf : (fmtOf n).infRung = infR n := (fmt_nums hn).2.2.2
  have hRa := rung_rg n a hn
  obtain ⟨d, hd⟩ : ∃ d : Nat, Fx.placeOf (fmtOf n) (rgI n a) = -(d : Int) := ⟨(-(Fx.placeOf (fmtOf n) (rgI n a))).toNat, by omega⟩
  obtain ⟨b, hb⟩ : ∃ b, b = min d 63 := ⟨_, rfl⟩
  obtain ⟨m, hm⟩ : ∃ m, m = Fx.magOf (fmtOf n) (rgI n a) := ⟨_, rfl⟩
  have hm53 : m < 2 ^ 53 := by rw [hm]; exact mag_lt hn _
  have hm0 : m ≠ 0 := fun h => hr0 ((Fx.mag_zero (fmtOf n)).1 (hm ▸ h))
  have hk := whK_ok (n := n) (a := a) (d := d) (b := b) (m := m) hn ha rfl hfin hr0 hd (by omega) hb hm
  rw [Fx.wholeW_num _ he _ (by rw [hRa, hinf]; exact hfin), hRa]
  have hN : Fx.wholeN (wayOf op) (Fx.negOf (fmtOf n) a) (Fx.magOf (fmtOf n) (rgI n a)) (Fx.placeOf (fmtOf n) (rgI n a)) = Fx.cutN (wayOf op) (Fx.negOf (fmtOf n) a) m b := by
    unfold Fx.wholeN
    rw [hd, ← hm]
    have e1 : (-(d : Int)).toNat = 0 := by omega
    have e2 : (- -(d : Int)).toNat = d := by omega
    rw [e1, e2, Nat.pow_zero, Nat.mul_one]
    by_cases h : d ≤ 63
    · rw [hb, Nat.min_eq_left h]
    · have hl : m.log2 < 53 := (Nat.log2_lt hm0).2 hm53
      rw [hb, Nat.min_eq_right (by omega)]
      exact Fx.cutN_small _ _ (by omega) (by omega)
  rw [hN]
  generalize hng : Fx.negOf (fmtOf n) a = ng at *
  have hend : ∀ up : Bool, Fx.cutN (wayOf op) ng m b = m / 2 ^ b + (cond up 1 0) → (whR n ng up).den (EG (vaW a d b m)) = ((fmtOf n).word ng (Fx.rung (fmtOf n) (Fx.cutN (wayOf op) ng m b) 0) : Nat) := by
    intro up hup
    rw [hup]
    have h1 : (cond up q1E qtE).den (EG (vaW a d b m)) = (m / 2 ^ b + (cond up 1 0) : Nat) := by
      cases up
      · exact qt_den hm53
      · exact q1_den hm53
    unfold whR
    rw [sgE_den hn (rngE_den hn false h1), rngI_f]
    have h2 : decide ((b01 ng).den (EG (vaW a d b m)) ≠ 0) = ng := by cases ng <;> rfl
    rw [h2]
    rfl
  have hb1 : 1 ≤ b ∧ b ≤ 63 := by omega
  have hboth : ∀ {ks : List (SE × SE)} {up : Bool}, isUE (runV sumsG (whK n ng ++ ks) 146 (argsW n op)) (whR n ng up) = true → (∀ p ∈ ks, p.1.den (EG (vaW a d b m)) = p.2.den (EG (vaW a d b m))) → Fx.cutN (wayOf op) ng m b = m / 2 ^ b + (cond up 1 0) →
      CX Tryz.prog 146 #[fmtVal n, .int .i64 op, .int .u64 (a : Int)] w (fun u w' => u = .int .u64 ((fmtOf n).word ng (Fx.rung (fmtOf n) (Fx.cutN (wayOf op) ng m b) 0) : Nat) ∧ Below w.heap.size w w') := by
    intro ks up h1 h2 h3
    refine cx_mono (runW (d := d) (b := b) (m := m) hn (by omega) ha h1 (fun p hp => ?_) w) fun u w' ⟨g1, g2⟩ => ⟨?_, g2⟩
    · rcases List.mem_append.1 hp with hp | hp
      · exact hk p hp
      · exact h2 p hp
    · rw [g1, hend up h3]
  have hmemB : ∀ x : Bool, x ∈ [false, true] := fun x => by cases x <;> decide
  have hrs := rs_den (a := a) (d := d) (b := b) hm53
  have hhf := hf_den (a := a) (d := d) (m := m) (b := b) (by omega)
  have hqt := qt_den (a := a) (d := d) (b := b) hm53
  have ht1 : ∀ t : Bool, t = decide (0 < m % 2 ^ b) → ∀ p ∈ t1K t, p.1.den (EG (vaW a d b m)) = p.2.den (EG (vaW a d b m)) := by
    intro t ht p hp
    simp only [t1K, List.mem_cons, List.not_mem_nil, or_false] at hp
    subst hp
    exact ltn_den (lit_den _ 0) hrs ht
  have hH : 2 ^ b = 2 * 2 ^ (b - 1) := by rw [show b = (b - 1) + 1 by omega, Nat.pow_succ]; simp; omega
  rcases hop with rfl | rfl | rfl | rfl
  · refine hboth (List.all_eq_true.1 (List.all_eq_true.1 (List.all_eq_true.1 wh4 n (mem_n hn)) ng (hmemB _)) (decide (0 < m % 2 ^ b)) (hmemB _)) (ht1 _ rfl) ?_
    show m / 2 ^ b + (if ng = false ∧ m % 2 ^ b ≠ 0 then 1 else 0) = _
    congr 1
    by_cases h : m % 2 ^ b = 0
    · cases ng <;> simp [h]
    · have h' : 0 < m % 2 ^ b := Nat.pos_of_ne_zero h
      cases ng <;> simp [h, h']
  · refine hboth (List.all_eq_true.1 (List.all_eq_true.1 (List.all_eq_true.1 wh5 n (mem_n hn)) ng (hmemB _)) (decide (0 < m % 2 ^ b)) (hmemB _)) (ht1 _ rfl) ?_
    show m / 2 ^ b + (if ng = true ∧ m % 2 ^ b ≠ 0 then 1 else 0) = _
    congr 1
    by_cases h : m % 2 ^ b = 0
    · cases ng <;> simp [h]
    · have h' : 0 < m % 2 ^ b := Nat.pos_of_ne_zero h
      cases ng <;> simp [h, h']
  · refine hboth (ks := []) (up := false) (by rw [List.append_nil]; exact List.all_eq_true.1 (List.all_eq_true.1 wh6 n (mem_n hn)) ng (hmemB _)) (fun p hp => by cases hp) ?_
    rfl
  · refine hboth (List.all_eq_true.1 (List.all_eq_true.1 (List.all_eq_true.1 (List.all_eq_true.1 (List.all_eq_true.1 wh7 n (mem_n hn)) ng (hmemB _)) (decide (2 ^ (b - 1) < m % 2 ^ b)) (hmemB _)) (decide (m % 2 ^ b = 2 ^ (b - 1))) (hmemB _)) (decide (m / 2 ^ b % 2 = 1)) (hmemB _)) ?_ ?_
    · intro p hp
      simp only [t3K, List.mem_cons, List.not_mem_nil, or_false] at hp
      rcases hp with rfl | rfl | rfl
      · exact ltn_den hhf hrs rfl
      · exact eqn_den hrs hhf rfl
      · show (mkEq (mkMd qtE 1) (.lit 1)).den _ = (b01 _).den _
        refine eqn_den (y := 1) ?_ (lit_den _ 1) rfl
        rw [mkMd_den, hqt]
        omega
    · show m / 2 ^ b + (if 2 ^ b < 2 * (m % 2 ^ b) ∨ (2 ^ b = 2 * (m % 2 ^ b) ∧ m / 2 ^ b % 2 = 1) then 1 else 0) = _
      congr 1
      clear hqt hhf hrs ht1 hboth hend hN hk
      generalize m % 2 ^ b = R at *
      generalize m / 2 ^ b = Q at *
      rw [hH]
      clear hH
      generalize 2 ^ (b - 1) = H at *
      by_cases c1 : H < R
      · rw [if_pos (by left; omega)]
        simp [c1]
      · by_cases c2 : R = H ∧ Q % 2 = 1
        · rw [if_pos (by right; omega)]
          simp [c2.1, c2.2]
        · rw [if_neg (by omega)]
          by_cases c3 : R = H
          · have c4 : ¬ Q % 2 = 1 := fun h => c2 ⟨c3, h⟩
            rw [decide_eq_false c1, decide_eq_false c4]
            simp
          · rw [decide_eq_false c1, decide_eq_false c3]
            simp
/-- the program's whole numbers -/
theorem whole_full {n : Nat} (hn : n = 32 ∨ n = 64) {op : Nat} (hop : op = 4 ∨ op = 5 ∨ op = 6 ∨ op = 7) {a : Nat} (ha : a < 2 ^ n) (na : rgI n a ≤ infR n) (w : World) :
    CX Tryz.prog 146 #[fmtVal n, .int .i64 op, .int .u64 (a : Int)] w (fun u w' => u = .int .u64 (Fx.wholeW (fmtOf n) (wayOf op) a : Nat) ∧ Below w.heap.size w w') := by
  have he : 2 ≤ (fmtOf n).exponentBits := fmt_exp
  have hinf : (fmtOf n).infRung = infR n := (fmt_nums hn).2.2.2
  have hRa := rung_rg n a hn
  have h2w : (2 : Nat) ^ n = 2 * (fmtOf n).signWeight := by rw [fmt_sign hn]; rcases hn with rfl | rfl <;> decide
  have hmem : op ∈ [4, 5, 6, 7] := by rcases hop with rfl | rfl | rfl | rfl <;> decide
  have hsame := Fx.wholeW_same (fmtOf n) he (wayOf op) (a := a) (by rw [← h2w]; exact ha) (by rw [hRa, hinf]; exact na)
  rw [hRa, hinf] at hsame
  have fin : ∀ {ks : List (SE × SE)}, isUE (runV sumsG ks 146 (argsW n op)) (wA n) = true → (∀ p ∈ ks, p.1.den (EG (vaW a 0 0 0)) = p.2.den (EG (vaW a 0 0 0))) → Fx.wholeW (fmtOf n) (wayOf op) a = a →
      CX Tryz.prog 146 #[fmtVal n, .int .i64 op, .int .u64 (a : Int)] w (fun u w' => u = .int .u64 (Fx.wholeW (fmtOf n) (wayOf op) a : Nat) ∧ Below w.heap.size w w') := by
    intro ks h1 h2 h3
    refine cx_mono (runW (d := 0) (b := 0) (m := 0) hn (by omega) ha h1 h2 w) fun u w' ⟨g1, g2⟩ => ⟨?_, g2⟩
    rw [g1, h3, wwA_den ha]
  have hplc : (plcE n (wA n)).den (EG (vaW a 0 0 0)) = Fx.placeOf (fmtOf n) (rgI n a) := by rw [plcE_den hn, wwA_den ha]
  rcases Nat.lt_or_eq_of_le na with hfin | hi
  · by_cases hp : 0 ≤ Fx.placeOf (fmtOf n) (rgI n a)
    · refine fin (List.all_eq_true.1 (List.all_eq_true.1 whP n (mem_n hn)) op hmem) ?_ (hsame (.inr (.inl hp)))
      intro p hp'
      simp only [List.mem_cons, List.not_mem_nil, or_false] at hp'
      rcases hp' with rfl | rfl
      · show (mkNot (mkLt (sA n) (.lit (.ofNat (infR n))))).den _ = (b01 false).den _
        exact nlt_den wsA_den (lit_den _ _) (decide_eq_false (by omega)).symm
      · show (mkNot (mkLt (plcE n (wA n)) (.lit 0))).den _ = (b01 true).den _
        refine not_lt_den ?_
        rw [hplc]
        show true = decide (¬ Fx.placeOf (fmtOf n) (rgI n a) < 0)
        exact (decide_eq_true (by omega)).symm
    · by_cases hz : rgI n a = 0
      · refine fin (List.all_eq_true.1 (List.all_eq_true.1 whZ n (mem_n hn)) op hmem) ?_ (hsame (.inr (.inr hz)))
        intro p hp'
        simp only [List.mem_cons, List.not_mem_nil, or_false] at hp'
        rcases hp' with rfl | rfl | rfl
        · show (mkNot (mkLt (sA n) (.lit (.ofNat (infR n))))).den _ = (b01 false).den _
          exact nlt_den wsA_den (lit_den _ _) (decide_eq_false (by omega)).symm
        · show (mkNot (mkLt (plcE n (wA n)) (.lit 0))).den _ = (b01 false).den _
          refine not_lt_den ?_
          rw [hplc]
          show false = decide (¬ Fx.placeOf (fmtOf n) (rgI n a) < 0)
          exact (decide_eq_false (by omega)).symm
        · show (mkEq (magE n (wA n)) (.lit 0)).den _ = (b01 true).den _
          exact eqn_den (by rw [magE_den hn, wwA_den ha]) (lit_den _ 0) (decide_eq_true ((Fx.mag_zero (fmtOf n)).2 hz)).symm
      · exact whole_num hn hop ha hfin hz (by omega) w
  · refine fin (List.all_eq_true.1 (List.all_eq_true.1 whI n (mem_n hn)) op hmem) ?_ (hsame (.inl hi))
    intro p hp'
    simp only [List.mem_cons, List.not_mem_nil, or_false] at hp'
    subst hp'
    show (mkNot (mkLt (sA n) (.lit (.ofNat (infR n))))).den _ = (b01 true).den _
    exact nlt_den wsA_den (lit_den _ _) (decide_eq_true (by omega)).symm

end Sx
end Go.Proofs.YtfdggebddcoeeaaGreatDoor
end

/-
  The reference's lesser and greater of two floats, its roots and whole numbers: they come to what the names say.
-/
set_option maxRecDepth 100000
noncomputable section
namespace Go.Proofs.YtfdggebddcoeeaaGreatDoor
namespace Fx
open Ieee
/-- a root of 32 bits, by 64: whatever no NaN it is of -/
theorem sqrt_all {a : Nat} (hw : a < 2 ^ 32) (ha : rungOf single a ≤ single.infRung) : (double.sqrt (widen a) = none ∧ single.sqrt a = none) ∨ ∃ b r, double.sqrt (widen a) = some b ∧ single.sqrt a = some r ∧ Narrows b r := by
  have h64 : 2 ≤ double.exponentBits := by decide
  have h32 : 2 ≤ single.exponentBits := by decide
  have hs2 : (2 : Nat) ^ 32 = 2 * single.signWeight := by decide
  have hz : ∀ (f : Format) p, rung f 0 p = 0 := fun f p => by unfold rung; rw [if_pos rfl]
  rcases Nat.lt_or_eq_of_le ha with h | h
  · obtain ⟨w1, w2, w3, w4⟩ := widen_num h
    by_cases h0 : rungOf single a = 0
    · have m0 : magOf single (rungOf single a) = 0 := (mag_zero single).2 h0
      have hr0 : rungOf double (widen a) = 0 := by rw [w2, m0, hz]
      have m0' : magOf double (rungOf double (widen a)) = 0 := (mag_zero double).2 hr0
      have hWlt : widen a < 2 * double.signWeight := by
        unfold widen
        rw [if_neg (by omega), m0, hz]
        unfold Format.word
        have hp : 0 < double.signWeight := Nat.two_pow_pos _
        split <;> omega
      right
      refine ⟨_, _, sqrt_zero double h64 hWlt hr0, sqrt_zero single h32 (by rw [← hs2]; exact hw) h0, .inl ⟨_, _, _, read_number double h64 w3, ?_, ?_⟩⟩
      · rw [write_number, m0', hz, w1]
        have := word_self single (w := a) (by rw [← hs2]; exact hw)
        rw [h0] at this
        exact this
      · rw [read_number single h32 h]
        rfl
    · cases hs : negOf single a
      · right
        exact sqrt_narrows h h0 hs
      · left
        have hW0 : rungOf double (widen a) ≠ 0 := fun h' => by
          obtain ⟨k, k1, k2⟩ := widen_parts h h0
          have hm := (mag_zero double).2 h'
          have ma : magOf single (rungOf single a) ≠ 0 := fun h => h0 ((mag_zero single).1 h)
          rw [k1] at hm
          have := Nat.mul_pos (Nat.pos_of_ne_zero ma) (Nat.two_pow_pos k)
          omega
        exact ⟨sqrt_none double h64 (Nat.le_of_lt w3) hW0 (by rw [w1]; exact hs), sqrt_none single h32 (Nat.le_of_lt h) h0 hs⟩
  · obtain ⟨w1, w2⟩ := widen_inf h
    have hp1 : 0 < double.infRung := by decide
    have hp2 : 0 < single.infRung := by decide
    cases hs : negOf single a
    · right
      refine ⟨_, _, sqrt_inf double h64 w2 (by rw [w1]; exact hs), sqrt_inf single h32 h hs, .inr ⟨false, ?_, rfl⟩⟩
      have hls := inf_lt_sign double
      rw [read_inf double h64 (word_rung double hls), word_neg double hls]
    · left
      exact ⟨sqrt_none double h64 (by omega) (by omega) (by rw [w1]; exact hs), sqrt_none single h32 (by omega) (by omega) hs⟩
theorem narrows_bits {b r : Nat} (h : Narrows b r) : floatToFloatBits .f64 b .f32 = some r := by
  rcases h with ⟨s, m, e, h1, h2, h3⟩ | ⟨s, h1, h2⟩
  · rw [Sx.ftf_eq h1, h2, if_neg (by rw [h3]; decide)]
  · unfold floatToFloatBits
    rw [if_neg (by decide)]
    show (match Ieee.double.read b with
      | .nan _ _ => none
      | .infinity s => some (Ieee.single.write (.infinity s))
      | .number s m e => if (Ieee.single.read (Ieee.single.write (.number s m e))).isInfinity then none else some (Ieee.single.write (.number s m e))) = _
    rw [h1]
    show some (single.write (.infinity s)) = _
    rw [h2]
theorem read_isNaN' (f : Format) (he : 2 ≤ f.exponentBits) {a : Nat} (h : isNaN f a = true) : ∃ s t, f.read a = .nan s t := ⟨_, _, read_nan f he (of_decide_eq_true h)⟩
theorem sqrt_nan (f : Format) (he : 2 ≤ f.exponentBits) {a : Nat} (h : isNaN f a = true) : f.sqrt a = none := by
  obtain ⟨s, t, hr⟩ := read_isNaN' f he h
  unfold Format.sqrt
  rw [hr]
  rfl
theorem integral_clean {way : Toward} {d : Datum} (h : d.isNaN = false) : (d.integral way).isNaN = false := by
  cases d with
  | number s m p => rfl
  | infinity s => rfl
  | nan s t => cases h
theorem whole_clean (f : Format) (he : 2 ≤ f.exponentBits) (way : Toward) {a : Nat} (h : isNaN f a = false) : isNaN f (wholeW f way a) = false := by
  have hle : rungOf f a ≤ f.infRung := by
    have := of_decide_eq_false h
    omega
  exact write_nan f (integral_clean (read_isNaN f he hle))
theorem sqrt_clean (f : Format) {a r : Nat} (h : f.sqrt a = some r) : isNaN f r = false := map_clean f (fun x hx => root_clean hx) h
end Fx
namespace Sx
open Go Go.RowKit

/-! the lesser, the greater -/
theorem order_lt_b (n : Nat) (a b : Nat) : ((fmtOf n).order a b == some .lt) = (!nan2 n a b && Fx.below (fmtOf n) a b) := by
  have h := Fx.order_lt (fmtOf n) fmt_exp a b
  unfold nan2
  cases ha : Fx.isNaN (fmtOf n) a <;> cases hb : Fx.isNaN (fmtOf n) b <;> cases hl : Fx.below (fmtOf n) a b <;> rw [ha, hb, hl] at h <;> simp at h ⊢ <;> exact h
theorem refEnd_eq {n : Nat} (hn : n = 32 ∨ n = 64) (mn : Bool) {a b u v : Nat} (ha : a < 2 ^ n) (hu : Fx.isNaN Ieee.double u = Fx.isNaN (fmtOf n) a) (hv : Fx.isNaN Ieee.double v = Fx.isNaN (fmtOf n) b)
    (zu : (od u 0 == some .eq) = decide (Fx.rungOf (fmtOf n) a = 0)) (zv : (od v 0 == some .eq) = decide (Fx.rungOf (fmtOf n) b = 0)) (huv : od u v = (fmtOf n).order a b) {s canon : Int} (hs : s = (2 ^ (n - 1) : Nat)) (hc : canon = (nanW n : Nat)) :
    refEnd mn s canon a b u v = (endN n mn a b : Nat) := by
  have hneg : decide (s ≤ (a : Int)) = Fx.negOf (fmtOf n) a := by
    unfold Fx.negOf
    rw [fmt_sign hn, hs]
    have h2 : 2 ^ n = 2 * 2 ^ (n - 1) := by rcases hn with rfl | rfl <;> decide
    have hp := Nat.two_pow_pos (n - 1)
    have hq : a / 2 ^ (n - 1) < 2 := (Nat.div_lt_iff_lt_mul hp).2 (by omega)
    by_cases h : 2 ^ (n - 1) ≤ a
    · have h1 : a / 2 ^ (n - 1) = 1 := by
        have := (Nat.one_le_div_iff hp).2 h
        omega
      rw [h1, decide_eq_true (by omega)]
      rfl
    · have h1 : a / 2 ^ (n - 1) = 0 := Nat.div_eq_of_lt (by omega)
      rw [h1, decide_eq_false (by omega)]
      rfl
  unfold refEnd endN
  rw [od_self, od_self, hu, hv, zu, zv, huv, order_lt_b, hneg, hc]
  unfold nan2
  cases Fx.isNaN (fmtOf n) a <;> cases Fx.isNaN (fmtOf n) b <;> by_cases z1 : Fx.rungOf (fmtOf n) a = 0 <;> by_cases z2 : Fx.rungOf (fmtOf n) b = 0 <;> cases mn <;> cases Fx.negOf (fmtOf n) a <;> cases Fx.below (fmtOf n) a b <;> simp [z1, z2]
theorem refP_eq {n : Nat} (a b c d u v : Nat) (huv : od u v = (fmtOf n).order c d) (hnan : nan2 n c d = nan2 n a b) : refP a b u v = (pmN n a b c d : Nat) := by
  unfold refP pmN
  rw [huv, order_lt_b, hnan]
  cases nan2 n a b <;> cases Fx.below (fmtOf n) c d <;> simp
theorem nan2_comm (n a b : Nat) : nan2 n b a = nan2 n a b := by unfold nan2; rw [Bool.or_comm]
theorem word_of64 {x : Int} (hx : inR .u64 x) : x = (wordOf 64 x : Nat) ∧ wordOf 64 x < 2 ^ 64 := by
  have := inR_unsigned (k := .u64) rfl hx
  rw [word64 hx]
  have h64 : IntKind.u64.bits = 64 := rfl
  rw [h64] at this
  omega
theorem word_of32 (x : Int) : x % 4294967296 = (wordOf 32 x : Nat) ∧ wordOf 32 x < 2 ^ 32 := by
  rw [word32]
  omega
theorem rbin64_5 : LeafFB 114 64 5 := fun x y hx hy w => by
  refine cx_of_calls okP Tryz.func114 (by kernel_rfl) ((wbin64_5 x y w).mono fun e w' ⟨h1, h2⟩ => ?_)
  subst h1
  refine ⟨?_, h2⟩
  have := refEnd_eq (n := 64) (.inr rfl) true (a := wordOf 64 x) (b := wordOf 64 y) (u := x.toNat) (v := y.toNat) (word_of64 hx).2 (by rw [word64 hx]; rfl) (by rw [word64 hy]; rfl) (by rw [od_zero, word64 hx]; rfl) (by rw [od_zero, word64 hy]; rfl) (by rw [word64 hx, word64 hy]; rfl) (s := 9223372036854775808) rfl (canon := 9221120237041090560) rfl
  rw [← (word_of64 hx).1, ← (word_of64 hy).1] at this
  rw [this]
  rfl
theorem rbin64_6 : LeafFB 114 64 6 := fun x y hx hy w => by
  refine cx_of_calls okP Tryz.func114 (by kernel_rfl) ((wbin64_6 x y w).mono fun e w' ⟨h1, h2⟩ => ?_)
  subst h1
  refine ⟨?_, h2⟩
  have := refEnd_eq (n := 64) (.inr rfl) false (a := wordOf 64 x) (b := wordOf 64 y) (u := x.toNat) (v := y.toNat) (word_of64 hx).2 (by rw [word64 hx]; rfl) (by rw [word64 hy]; rfl) (by rw [od_zero, word64 hx]; rfl) (by rw [od_zero, word64 hy]; rfl) (by rw [word64 hx, word64 hy]; rfl) (s := 9223372036854775808) rfl (canon := 9221120237041090560) rfl
  rw [← (word_of64 hx).1, ← (word_of64 hy).1] at this
  rw [this]
  rfl
theorem rbin64_8 : LeafFB 114 64 8 := fun x y hx hy w => by
  refine cx_of_calls okP Tryz.func114 (by kernel_rfl) ((wbin64_8 x y w).mono fun e w' ⟨h1, h2⟩ => ?_)
  subst h1
  refine ⟨?_, h2⟩
  have := refP_eq (n := 64) (wordOf 64 x) (wordOf 64 y) (wordOf 64 y) (wordOf 64 x) y.toNat x.toNat (by rw [word64 hx, word64 hy]; rfl) (nan2_comm _ _ _)
  rw [← (word_of64 hx).1, ← (word_of64 hy).1] at this
  rw [this]
  rfl
theorem rbin64_9 : LeafFB 114 64 9 := fun x y hx hy w => by
  refine cx_of_calls okP Tryz.func114 (by kernel_rfl) ((wbin64_9 x y w).mono fun e w' ⟨h1, h2⟩ => ?_)
  subst h1
  refine ⟨?_, h2⟩
  have := refP_eq (n := 64) (wordOf 64 x) (wordOf 64 y) (wordOf 64 x) (wordOf 64 y) x.toNat y.toNat (by rw [word64 hx, word64 hy]; rfl) rfl
  rw [← (word_of64 hx).1, ← (word_of64 hy).1] at this
  rw [this]
  rfl
theorem zero32 {a r : Nat} (h1 : Fx.isNaN Ieee.single a = false → r = Fx.widen a) (h2 : Fx.isNaN Ieee.single a = true → Fx.isNaN Ieee.double r = true) : (od r 0 == some .eq) = decide (Fx.rungOf Ieee.single a = 0) := by
  have hz : Fx.widen 0 = 0 := by
    unfold Fx.widen
    rw [if_neg (by decide), Fx.rung_z, Fx.neg_z]
    have : Fx.magOf Ieee.single 0 = 0 := (Fx.mag_zero _).2 rfl
    rw [this]
    rfl
  have ho := order_wide (a := a) (b := 0) (r := r) (s := 0) h1 h2 (fun _ => hz.symm) (fun h => by rw [Fx.nan_z] at h; cases h)
  have e : od r 0 = Ieee.single.order a 0 := ho
  rw [e]
  exact Fx.order_zero _ e32 a
theorem end32 {op : Nat} (mn : Bool) (hw : ∀ (x y : Int) (w : World) (_ : 0 ≤ x) (_ : 0 ≤ y) {r s : Nat} {w1 w2 : World}, (convert 147 143 (.float .f32 (x % 4294967296).toNat)).run Tryz.prog w = .ok (.float .f64 r) w1 → (convert 147 143 (.float .f32 (y % 4294967296).toNat)).run Tryz.prog w1 = .ok (.float .f64 s) w2 → Below w.heap.size w w2 →
    Calls Tryz.prog 114 #[.int .i64 32, .int .i64 op, .int .u64 x, .int .u64 y] w fun e w' => e = .returned (.tuple #[.int .u64 (refEnd mn 2147483648 2143289344 (x % 4294967296) (y % 4294967296) r s), .int .i64 0]) ∧ Below w.heap.size w w') (hb : ∀ a b, binN 32 op a b = endN 32 mn a b) : LeafFB 114 32 op := fun x y hx hy w => by
  obtain ⟨r, w1, hrun1, d1, a1, a2⟩ := conv_wide (x % 4294967296).toNat w
  obtain ⟨s, w2, hrun2, d2, b1, b2⟩ := conv_wide (y % 4294967296).toNat w1
  refine cx_of_calls okP Tryz.func114 (by kernel_rfl) ((hw x y w (nonneg hx) (nonneg hy) hrun1 hrun2 (drew_below d1 d2)).mono fun e w' ⟨g1, g2⟩ => ?_)
  subst g1
  refine ⟨?_, g2⟩
  have := refEnd_eq (n := 32) (.inl rfl) mn (a := wordOf 32 x) (b := wordOf 32 y) (u := r) (v := s) (word_of32 x).2 (wide_nan a1 a2) (wide_nan b1 b2) (zero32 a1 a2) (zero32 b1 b2) (order_wide a1 a2 b1 b2) (s := 2147483648) rfl (canon := 2143289344) rfl
  rw [← (word_of32 x).1, ← (word_of32 y).1] at this
  rw [this]
  unfold FB
  rw [hb]
theorem rbin32_5 : LeafFB 114 32 5 := end32 (op := 5) true wbin32_5 fun _ _ => rfl
theorem rbin32_6 : LeafFB 114 32 6 := end32 (op := 6) false wbin32_6 fun _ _ => rfl
theorem rbin32_8 : LeafFB 114 32 8 := fun x y hx hy w => by
  obtain ⟨r, w1, hrun1, d1, a1, a2⟩ := conv_wide (x % 4294967296).toNat w
  obtain ⟨s, w2, hrun2, d2, b1, b2⟩ := conv_wide (y % 4294967296).toNat w1
  refine cx_of_calls okP Tryz.func114 (by kernel_rfl) ((wbin32_8 x y w (nonneg hx) (nonneg hy) hrun1 hrun2 (drew_below d1 d2)).mono fun e w' ⟨g1, g2⟩ => ?_)
  subst g1
  refine ⟨?_, g2⟩
  have := refP_eq (n := 32) (wordOf 32 x) (wordOf 32 y) (wordOf 32 y) (wordOf 32 x) s r (order_wide b1 b2 a1 a2) (nan2_comm _ _ _)
  rw [← (word_of32 x).1, ← (word_of32 y).1] at this
  rw [this]
  rfl
theorem rbin32_9 : LeafFB 114 32 9 := fun x y hx hy w => by
  obtain ⟨r, w1, hrun1, d1, a1, a2⟩ := conv_wide (x % 4294967296).toNat w
  obtain ⟨s, w2, hrun2, d2, b1, b2⟩ := conv_wide (y % 4294967296).toNat w1
  refine cx_of_calls okP Tryz.func114 (by kernel_rfl) ((wbin32_9 x y w (nonneg hx) (nonneg hy) hrun1 hrun2 (drew_below d1 d2)).mono fun e w' ⟨g1, g2⟩ => ?_)
  subst g1
  refine ⟨?_, g2⟩
  have := refP_eq (n := 32) (wordOf 32 x) (wordOf 32 y) (wordOf 32 x) (wordOf 32 y) r s (order_wide a1 a2 b1 b2) rfl
  rw [← (word_of32 x).1, ← (word_of32 y).1] at this
  rw [this]
  rfl

/-! of one -/
def unN (n op a : Nat) : Nat := match op with
  | 1 => Fx.rungOf (fmtOf n) a
  | 2 => Fx.flip (fmtOf n) a
  | 3 => ((fmtOf n).sqrt a).getD (nanW n)
  | _ => cond (Fx.isNaN (fmtOf n) a) (nanW n) (Fx.wholeW (fmtOf n) (wayOf op) a)
def FU (n op : Nat) (x : Int) : Int := (unN n op (wordOf n x) : Nat)
def LeafFU (f : FuncId) (n op : Nat) : Prop := ∀ x : Int, inR .u64 x → ∀ w, CX Tryz.prog f #[.int .i64 n, .int .i64 op, .int .u64 x] w (fun u w' => u = .tuple #[.int .u64 (FU n op x), .int .i64 0] ∧ Below w.heap.size w w')
theorem run64_3 : LeafFU 115 64 3 := fun x hx w => by
  obtain ⟨r, w1, hrun, hd, h1, h2⟩ := sqrt_call x.toNat w
  refine cx_of_calls okP Tryz.func115 (by kernel_rfl) ((wun64_3 x w hrun (drew1 hd)).mono fun e w' ⟨g1, g2⟩ => ?_)
  subst g1
  refine ⟨?_, g2⟩
  rw [od_self]
  show _ = Value.tuple #[.int .u64 (((Ieee.double.sqrt (wordOf 64 x)).getD (nanW 64) : Nat) : Int), .int .i64 0]
  rw [word64 hx]
  cases hq : Ieee.double.sqrt x.toNat with
  | none => rw [h2 hq]; rfl
  | some s => rw [h1 s hq, Fx.sqrt_clean _ hq]; rfl
theorem whole64 {op : Nat} (hop : 4 ≤ op) {g : FuncId} (hcall : ∀ (x : Nat) (w : World), ∃ r w', (callFunc g #[.float .f64 x]).run Tryz.prog w = .ok (.value (.float .f64 r)) w' ∧ Drew w w' ∧ (Fx.isNaN Ieee.double x = false → r = Ieee.double.write ((Ieee.double.read x).integral (wayOf op))) ∧ (Fx.isNaN Ieee.double x = true → Fx.isNaN Ieee.double r = true))
    (hw : ∀ (x : Int) (w : World) {r : Nat} {w1 : World}, (callFunc g #[.float .f64 x.toNat]).run Tryz.prog w = .ok (.value (.float .f64 r)) w1 → Below w.heap.size w w1 →
      Calls Tryz.prog 115 #[.int .i64 64, .int .i64 op, .int .u64 x] w fun e w' => e = .returned (.tuple #[.int .u64 (if (od r r != some .eq) = true then 9221120237041090560 else (r : Int)), .int .i64 0]) ∧ Below w.heap.size w w') (hu : ∀ a, unN 64 op a = cond (Fx.isNaN (fmtOf 64) a) (nanW 64) (Fx.wholeW (fmtOf 64) (wayOf op) a)) : LeafFU 115 64 op := fun x hx w => by
  obtain ⟨r, w1, hrun, hd, h1, h2⟩ := hcall x.toNat w
  refine cx_of_calls okP Tryz.func115 (by kernel_rfl) ((hw x w hrun (drew1 hd)).mono fun e w' ⟨g1, g2⟩ => ?_)
  subst g1
  refine ⟨?_, g2⟩
  rw [od_self]
  unfold FU
  rw [hu, word64 hx]
  cases hq : Fx.isNaN Ieee.double x.toNat
  · have e1 : Fx.isNaN (fmtOf 64) x.toNat = false := hq
    have e2 : r = Fx.wholeW (fmtOf 64) (wayOf op) x.toNat := h1 hq
    rw [e1, e2]
    have e3 : Fx.isNaN Ieee.double (Fx.wholeW (fmtOf 64) (wayOf op) x.toNat) = false := Fx.whole_clean Ieee.double e64 (wayOf op) hq
    rw [e3]
    rfl
  · have e1 : Fx.isNaN (fmtOf 64) x.toNat = true := hq
    rw [e1, h2 hq]
    rfl
theorem run64_4 : LeafFU 115 64 4 := whole64 (op := 4) (by decide) whole_call4 wun64_4 fun _ => rfl
theorem run64_5 : LeafFU 115 64 5 := whole64 (op := 5) (by decide) whole_call5 wun64_5 fun _ => rfl
theorem run64_6 : LeafFU 115 64 6 := whole64 (op := 6) (by decide) whole_call6 wun64_6 fun _ => rfl
theorem run64_7 : LeafFU 115 64 7 := whole64 (op := 7) (by decide) whole_call7 wun64_7 fun _ => rfl
theorem run32_3 : LeafFU 115 32 3 := fun x hx w => by
  obtain ⟨a, w1, hrun1, d1, a1, a2⟩ := conv_wide (x % 4294967296).toNat w
  obtain ⟨r, w2, hrun2, d2, h1, h2⟩ := sqrt_call a w1
  obtain ⟨s, w3, hrun3, d3, k1, k2, hs⟩ := conv_narrow r w2
  refine cx_of_calls okP Tryz.func115 (by kernel_rfl) ((wun32_3 x w (nonneg hx) hrun1 hrun2 hrun3 hs (drew3 d1 d2 d3)).mono fun e w' ⟨g1, g2⟩ => ?_)
  subst g1
  refine ⟨?_, g2⟩
  rw [od4_self]
  show _ = Value.tuple #[.int .u64 (((Ieee.single.sqrt (wordOf 32 x)).getD (nanW 32) : Nat) : Int), .int .i64 0]
  rw [← word32] at a1 a2
  have hlt := (word_of32 x).2
  generalize wordOf 32 x = u at *
  cases hq : Fx.isNaN Ieee.single u
  · have hle : Fx.rungOf Ieee.single u ≤ Ieee.single.infRung := by
      have := of_decide_eq_false hq
      omega
    rcases Fx.sqrt_all hlt hle with ⟨e1, e2⟩ | ⟨b, c, e1, e2, e3⟩
    · rw [a1 hq] at h2
      rw [e2, k1 (h2 e1)]
      rfl
    · rw [a1 hq] at h1
      have hb := h1 b e1
      subst hb
      have hc := k2 c (Fx.narrows_bits e3)
      subst hc
      rw [e2, Fx.sqrt_clean _ e2]
      rfl
  · rw [Fx.sqrt_nan _ e32 hq, k1 (h2 (Fx.sqrt_nan _ e64 (a2 hq)))]
    rfl
theorem whole32 {op : Nat} {g : FuncId} (hcall : ∀ (x : Nat) (w : World), ∃ r w', (callFunc g #[.float .f64 x]).run Tryz.prog w = .ok (.value (.float .f64 r)) w' ∧ Drew w w' ∧ (Fx.isNaN Ieee.double x = false → r = Ieee.double.write ((Ieee.double.read x).integral (wayOf op))) ∧ (Fx.isNaN Ieee.double x = true → Fx.isNaN Ieee.double r = true))
    (hw : ∀ (x : Int) (w : World) (_ : 0 ≤ x) {a r s : Nat} {w1 w2 w3 : World}, (convert 147 143 (.float .f32 (x % 4294967296).toNat)).run Tryz.prog w = .ok (.float .f64 a) w1 → (callFunc g #[.float .f64 a]).run Tryz.prog w1 = .ok (.value (.float .f64 r)) w2 → (convert 143 147 (.float .f64 r)).run Tryz.prog w2 = .ok (.float .f32 s) w3 → s < 2 ^ 32 → Below w.heap.size w w3 →
      Calls Tryz.prog 115 #[.int .i64 32, .int .i64 op, .int .u64 x] w fun e w' => e = .returned (.tuple #[.int .u64 (if (od4 s s != some .eq) = true then 2143289344 else (s : Int)), .int .i64 0]) ∧ Below w.heap.size w w') (hu : ∀ a, unN 32 op a = cond (Fx.isNaN (fmtOf 32) a) (nanW 32) (Fx.wholeW (fmtOf 32) (wayOf op) a)) : LeafFU 115 32 op := fun x hx w => by
  obtain ⟨a, w1, hrun1, d1, a1, a2⟩ := conv_wide (x % 4294967296).toNat w
  obtain ⟨r, w2, hrun2, d2, h1, h2⟩ := hcall a w1
  obtain ⟨s, w3, hrun3, d3, k1, k2, hs⟩ := conv_narrow r w2
  refine cx_of_calls okP Tryz.func115 (by kernel_rfl) ((hw x w (nonneg hx) hrun1 hrun2 hrun3 hs (drew3 d1 d2 d3)).mono fun e w' ⟨g1, g2⟩ => ?_)
  subst g1
  refine ⟨?_, g2⟩
  rw [od4_self]
  unfold FU
  rw [hu]
  have hwn := wide_nan a1 a2
  rw [← word32] at a1 a2 hwn
  generalize wordOf 32 x = u at *
  cases hq : Fx.isNaN Ieee.single u
  · have e1 : Fx.isNaN (fmtOf 32) u = false := hq
    have hle : Fx.rungOf Ieee.single u ≤ Ieee.single.infRung := by
      have := of_decide_eq_false hq
      omega
    have hr : r = Fx.wholeW Ieee.double (wayOf op) (Fx.widen u) := by
      rw [hq] at hwn
      rw [h1 hwn, a1 hq]
      rfl
    have hsv := k2 _ (by rw [hr]; exact Fx.narrows_bits (Fx.whole_narrows (wayOf op) hle))
    have e2 : s = Fx.wholeW (fmtOf 32) (wayOf op) u := hsv
    rw [e1, e2]
    have e3 : Fx.isNaN Ieee.single (Fx.wholeW (fmtOf 32) (wayOf op) u) = false := Fx.whole_clean Ieee.single e32 (wayOf op) hq
    rw [e3]
    rfl
  · have e1 : Fx.isNaN (fmtOf 32) u = true := hq
    rw [e1, k1 (h2 (a2 hq))]
    rfl
theorem run32_4 : LeafFU 115 32 4 := whole32 (op := 4) whole_call4 wun32_4 fun _ => rfl
theorem run32_5 : LeafFU 115 32 5 := whole32 (op := 5) whole_call5 wun32_5 fun _ => rfl
theorem run32_6 : LeafFU 115 32 6 := whole32 (op := 6) whole_call6 wun32_6 fun _ => rfl
theorem run32_7 : LeafFU 115 32 7 := whole32 (op := 7) whole_call7 wun32_7 fun _ => rfl

end Sx
end Go.Proofs.YtfdggebddcoeeaaGreatDoor
end

/-
  The program's product of two floats that are no NaN.
-/
set_option maxRecDepth 100000
noncomputable section
namespace Go.Proofs.YtfdggebddcoeeaaGreatDoor
namespace Sx
open Go Go.RowKit

theorem mulKi_ok {n a b : Nat} {ia ib za zb : Bool} (h1 : ia = decide (rgI n a = infR n)) (h2 : ib = decide (rgI n b = infR n)) (h3 : za = decide (rgI n a = 0)) (h4 : zb = decide (rgI n b = 0)) : ∀ p ∈ mulKi n ia ib za zb, p.1.den (EG (vaM a b 0)) = p.2.den (EG (vaM a b 0)) := by
  intro p hp
  have hd : ∀ x y : Nat, decide (((x : Nat) : Int) = ((y : Nat) : Int)) = decide (x = y) := fun x y => by
    congr 1
    simp only [Int.natCast_inj]
  simp only [mulKi, List.mem_cons, List.not_mem_nil, or_false] at hp
  rcases hp with rfl | rfl | rfl | rfl
  · show (mkEq (sA n) (.lit (.ofNat (infR n)))).den _ = (b01 _).den _
    refine eq_den ?_
    rw [sA_den, h1]
    exact (hd _ _).symm
  · show (mkEq (sB n) (.lit (.ofNat (infR n)))).den _ = (b01 _).den _
    refine eq_den ?_
    rw [sB_den, h2]
    exact (hd _ _).symm
  · show (mkEq (sA n) (.lit 0)).den _ = (b01 _).den _
    refine eq_den ?_
    rw [sA_den, h3]
    exact (hd _ 0).symm
  · show (mkEq (sB n) (.lit 0)).den _ = (b01 _).den _
    refine eq_den ?_
    rw [sB_den, h4]
    exact (hd _ 0).symm
theorem mul_end {n a b : Nat} (hn : n = 32 ∨ n = 64) (ha : a < 2 ^ n) (hb : b < 2 ^ n) {ks : List (SE × SE)} {s : SE} (h : isUE (runV sumsG ks 156 (argsF n)) s = true) (hk : ∀ p ∈ ks, p.1.den (EG (vaM a b 0)) = p.2.den (EG (vaM a b 0))) (w : World) :
    CX Tryz.prog 156 #[fmtVal n, .int .u64 (a : Int), .int .u64 (b : Int)] w (fun u w' => u = .int .u64 (s.den (EG (vaM a b 0))) ∧ Below w.heap.size w w') := by
  obtain ⟨hp, k, hr⟩ := isUE_ok h
  have hc := leafS_cx (E := EG (vaM a b 0)) sumsG_ok hr hk (argsF_wf hn ha hb) w
  rw [argsF_den ha hb] at hc
  refine cx_mono hc fun v w' hv => ?_
  obtain ⟨⟨loc', h1⟩, h2, _⟩ := hv
  exact ⟨h1, h2⟩
/-- an infinity and a nought -/
theorem mul_nan {n : Nat} (hn : n = 32 ∨ n = 64) {a b : Nat} (ha : a < 2 ^ n) (hb : b < 2 ^ n) (hi : rgI n a = infR n ∨ rgI n b = infR n) (hz : rgI n a = 0 ∨ rgI n b = 0) (w : World) :
    CX Tryz.prog 156 #[fmtVal n, .int .u64 (a : Int), .int .u64 (b : Int)] w (fun u w' => u = .int .u64 (nanR n : Nat) ∧ Below w.heap.size w w') := by
  have h0 : infR n ≠ 0 := by rcases hn with rfl | rfl <;> decide
  refine mul_end hn ha hb (s := .lit (.ofNat (nanR n))) (List.all_eq_true.1 (List.all_eq_true.1 mul_n n (mem_n hn)) (decide (rgI n a = infR n), decide (rgI n b = infR n), decide (rgI n a = 0), decide (rgI n b = 0)) ?_) (mulKi_ok rfl rfl rfl rfl) w
  by_cases c1 : rgI n a = infR n <;> by_cases c2 : rgI n b = infR n <;> by_cases c3 : rgI n a = 0 <;> by_cases c4 : rgI n b = 0 <;> first | (exfalso; omega) | simp [c1, c2, c3, c4, h0, h0.symm]
/-- an infinity -/
theorem mul_inf {n : Nat} (hn : n = 32 ∨ n = 64) {a b : Nat} (ha : a < 2 ^ n) (hb : b < 2 ^ n) (hi : rgI n a = infR n ∨ rgI n b = infR n) (hz : ¬ (rgI n a = 0 ∨ rgI n b = 0)) (w : World) :
    CX Tryz.prog 156 #[fmtVal n, .int .u64 (a : Int), .int .u64 (b : Int)] w (fun u w' => u = .int .u64 ((fmtOf n).word (Fx.negOf (fmtOf n) a != Fx.negOf (fmtOf n) b) (infR n) : Nat) ∧ Below w.heap.size w w') := by
  have z1 : decide (rgI n a = 0) = false := decide_eq_false fun h => hz (.inl h)
  have z2 : decide (rgI n b = 0) = false := decide_eq_false fun h => hz (.inr h)
  refine cx_mono (mul_end hn ha hb (List.all_eq_true.1 (List.all_eq_true.1 mul_i n (mem_n hn)) (decide (rgI n a = infR n), decide (rgI n b = infR n)) ?_) (mulKi_ok rfl rfl z1.symm z2.symm) w) fun u w' ⟨h1, h2⟩ => ⟨?_, h2⟩
  · by_cases c1 : rgI n a = infR n <;> by_cases c2 : rgI n b = infR n <;> first | (exfalso; omega) | simp [c1, c2]
  · rw [h1, ← xorE_den (e := 0) hn ha hb]
    unfold Ieee.Format.word
    rw [fmt_sign hn]
    show Value.int .u64 (if (xorE n).den (EG (vaM a b 0)) = 0 then ((infR n : Nat) : Int) else ((infR n + 2 ^ (n - 1) : Nat) : Int)) = _
    by_cases c : (xorE n).den (EG (vaM a b 0)) = 0
    · simp [c]
    · rw [if_neg c, decide_eq_true c, if_pos rfl, Nat.add_comm]

end Sx
end Go.Proofs.YtfdggebddcoeeaaGreatDoor
end

/-
  The program's product of two floats that are no NaN.
-/
set_option maxRecDepth 100000
noncomputable section
namespace Go.Proofs.YtfdggebddcoeeaaGreatDoor
namespace Sx
open Go Go.RowKit

theorem mul_full {n : Nat} (hn : n = 32 ∨ n = 64) {a b : Nat} (ha : a < 2 ^ n) (hb : b < 2 ^ n) (na : rgI n a ≤ infR n) (nb : rgI n b ≤ infR n) (w : World) :
    CX Tryz.prog 156 #[fmtVal n, .int .u64 (a : Int), .int .u64 (b : Int)] w (fun u w' => u = .int .u64 (((fmtOf n).mul a b).getD (nanR n) : Nat) ∧ Below w.heap.size w w') := by
  have he : 2 ≤ (fmtOf n).exponentBits := fmt_exp
  have hinf : (fmtOf n).infRung = infR n := (fmt_nums hn).2.2.2
  have hRa := rung_rg n a hn
  have hRb := rung_rg n b hn
  by_cases hi : rgI n a = infR n ∨ rgI n b = infR n
  · by_cases hz : rgI n a = 0 ∨ rgI n b = 0
    · rw [Fx.mul_none _ he (by rw [hRa, hinf]; exact na) (by rw [hRb, hinf]; exact nb) (by rw [hRa, hRb, hinf]; exact hi) (by rw [hRa, hRb]; exact hz)]
      exact mul_nan hn ha hb hi hz w
    · rw [Fx.mul_infs _ he (by rw [hRa, hinf]; exact na) (by rw [hRb, hinf]; exact nb) (by rw [hRa, hRb, hinf]; exact hi) (by rw [hRa, hRb]; exact hz), hinf]
      exact mul_inf hn ha hb hi hz w
  · rw [Fx.mul_num _ he (by rw [hRa, hinf]; omega) (by rw [hRb, hinf]; omega), hRa, hRb]
    exact mul_fin hn ha hb (by omega) (by omega) w

end Sx
end Go.Proofs.YtfdggebddcoeeaaGreatDoor
end

/-
  Digits of a quotient and of a root, one by one: plain laws.
-/
set_option maxRecDepth 10000
namespace Go.Proofs.YtfdggebddcoeeaaGreatDoor
namespace Fx

/-- a digit guessed, and what is left by the guess -/
structure GuessB (B y1 y0 u u1 q r : Nat) : Prop where
  sum : q * y1 + r = u
  ge : (u * B + u1) / (y1 * B + y0) ≤ q
  le : q ≤ B + 1
section
variable {B y1 y0 u u1 q r : Nat}
theorem guess_mulB (h : q * y1 + r = u) : q * (y1 * B + y0) + r * B = u * B + q * y0 := by
  rw [← h, Nat.mul_add, Nat.add_mul, ← Nat.mul_assoc]
  omega
theorem guess_startB (hB : B ≤ 2 * y1) (hB0 : 0 < B) (hy0 : y0 < B) (hu : u < y1 * B + y0) (hu1 : u1 < B) : GuessB B y1 y0 u u1 (u / y1) (u % y1) := by
  have hy1 : 0 < y1 := by omega
  have hd := Nat.div_add_mod u y1
  have hm := Nat.mod_lt u hy1
  have hypos : 0 < y1 * B + y0 := by have := Nat.mul_pos hy1 hB0; omega
  refine ⟨by rw [Nat.mul_comm]; exact hd, ?_, ?_⟩
  · refine Nat.le_of_lt_succ ((Nat.div_lt_iff_lt_mul hypos).2 ?_)
    have h1 : u + 1 ≤ (u / y1 + 1) * y1 := by rw [Nat.add_mul, Nat.mul_comm (u / y1)]; omega
    have h2 := Nat.mul_le_mul_right B h1
    rw [Nat.add_mul, Nat.one_mul, Nat.mul_assoc] at h2
    have h3 : (u / y1 + 1) * (y1 * B) ≤ (u / y1 + 1) * (y1 * B + y0) := Nat.mul_le_mul_left _ (Nat.le_add_right _ _)
    simp only [Nat.succ_eq_add_one]
    omega
  · refine Nat.le_of_lt_succ ((Nat.div_lt_iff_lt_mul hy1).2 ?_)
    simp only [Nat.succ_eq_add_one]
    have e : (B + 1 + 1) * y1 = y1 * B + 2 * y1 := by rw [Nat.add_mul, Nat.add_mul, Nat.mul_comm B]; omega
    rw [e]
    omega
theorem guess_digitB (hu : u < y1 * B + y0) (hu1 : u1 < B) : (u * B + u1) / (y1 * B + y0) < B := by
  generalize y1 * B + y0 = y at *
  refine (Nat.div_lt_iff_lt_mul (by omega)).2 ?_
  have := Nat.mul_le_mul_right B (show u + 1 ≤ y from hu)
  rw [Nat.add_mul, Nat.mul_comm y] at this
  omega
theorem GuessB.down (h : GuessB B y1 y0 u u1 q r) (hu : u < y1 * B + y0) (hu1 : u1 < B) (hc : B ≤ q ∨ r * B + u1 < q * y0) : 1 ≤ q ∧ GuessB B y1 y0 u u1 (q - 1) (r + y1) ∧ q - 1 ≤ B := by
  have hlt : (u * B + u1) / (y1 * B + y0) < q := by
    rcases hc with hc | hc
    · exact Nat.lt_of_lt_of_le (guess_digitB hu hu1) hc
    · have := guess_mulB (B := B) (y0 := y0) h.sum
      generalize y1 * B + y0 = y at *
      refine (Nat.div_lt_iff_lt_mul (by omega)).2 ?_
      omega
  have h1 : 1 ≤ q := Nat.lt_of_le_of_lt (Nat.zero_le _) hlt
  obtain ⟨p, rfl⟩ : ∃ p, q = p + 1 := ⟨q - 1, by omega⟩
  have hs := h.sum
  have hl := h.le
  rw [Nat.add_mul, Nat.one_mul] at hs
  refine ⟨h1, ⟨?_, Nat.le_of_lt_succ hlt, by omega⟩, by omega⟩
  rw [Nat.add_sub_cancel]
  omega
theorem GuessB.stop (h : GuessB B y1 y0 u u1 q r) (hu : u < y1 * B + y0) (hc : q * y0 ≤ r * B + u1) : q = (u * B + u1) / (y1 * B + y0) := by
  refine Nat.le_antisymm ?_ h.ge
  have := guess_mulB (B := B) (y0 := y0) h.sum
  generalize y1 * B + y0 = y at *
  refine (Nat.le_div_iff_mul_le (by omega)).2 ?_
  omega
theorem GuessB.break (h : GuessB B y1 y0 u u1 q r) (hu : u < y1 * B + y0) (hy0 : y0 < B) (hq : q ≤ B) (hr : B ≤ r) : q = (u * B + u1) / (y1 * B + y0) := by
  refine h.stop hu ?_
  have h1 := Nat.mul_le_mul hq (Nat.le_of_lt hy0)
  have h2 := Nat.mul_le_mul_right B hr
  omega
end
/-- two digits of a quotient -/
theorem two_digitsB (B : Nat) {m y : Nat} (hm : m < y) : m * (B * B) / y = m * B / y * B + m * B % y * B / y ∧ m * (B * B) % y = m * B % y * B % y := by
  have hy : 0 < y := by omega
  have h1 := Nat.div_add_mod (m * B) y
  have e : m * (B * B) = y * (m * B / y * B) + m * B % y * B := by
    rw [← Nat.mul_assoc]
    conv => lhs; rw [← h1]
    rw [Nat.add_mul, Nat.mul_assoc]
  constructor
  · conv => lhs; rw [e]
    rw [Nat.mul_add_div hy]
  · conv => lhs; rw [e]
    rw [Nat.mul_add_mod]

/-! roots -/
/-- a root so far, and what is left -/
structure Rooted (T k root rest : Nat) : Prop where
  sum : root * root + rest = T
  le : rest ≤ 2 * root
  lt : root < 2 ^ k
theorem Rooted.up {T k root rest pair : Nat} (h : Rooted T k root rest) (_hp : pair < 4) (hc : root * 4 + 1 ≤ rest * 4 + pair) : Rooted (4 * T + pair) (k + 1) (2 * root + 1) (rest * 4 + pair - (root * 4 + 1)) := by
  have h1 := h.sum
  have h2 := h.le
  have h3 := h.lt
  have e : (2 * root + 1) * (2 * root + 1) = 4 * (root * root) + 4 * root + 1 := by
    rw [Nat.add_mul, Nat.mul_add, Nat.mul_mul_mul_comm]; omega
  refine ⟨by rw [e]; omega, by omega, by rw [Nat.pow_succ]; omega⟩
theorem Rooted.same {T k root rest pair : Nat} (h : Rooted T k root rest) (hc : rest * 4 + pair < root * 4 + 1) : Rooted (4 * T + pair) (k + 1) (2 * root) (rest * 4 + pair) := by
  have h1 := h.sum
  have h3 := h.lt
  have e : (2 * root) * (2 * root) = 4 * (root * root) := by rw [Nat.mul_mul_mul_comm]
  refine ⟨by rw [e]; omega, by omega, by rw [Nat.pow_succ]; omega⟩
theorem Rooted.isRoot {T k root rest : Nat} (h : Rooted T k root rest) : IsRoot T root ∧ (rest = 0 ↔ root * root = T) := by
  have h1 := h.sum
  have h2 := h.le
  refine ⟨⟨by omega, ?_⟩, by omega⟩
  rw [Nat.add_mul, Nat.mul_add]
  omega
/-- m 2^60 by pairs of bits, from the top -/
def topsT (m k : Nat) : Nat := m * 2 ^ 60 / 2 ^ (124 - 2 * k)
def pairT (m k : Nat) : Nat := if k < 32 then m / 2 ^ (62 - 2 * k) % 4 else 0
theorem tops_step {m k : Nat} (hk : k < 62) : topsT m (k + 1) = 4 * topsT m k + pairT m k := by
  have e1 : 124 - 2 * k = (124 - 2 * (k + 1)) + 2 := by omega
  have h4 : topsT m k = topsT m (k + 1) / 4 := by
    unfold topsT
    rw [e1, Nat.pow_add, Nat.div_div_eq_div_mul]
  have hp : topsT m (k + 1) % 4 = pairT m k := by
    unfold topsT pairT
    by_cases h : k < 32
    · rw [if_pos h, show 124 - 2 * (k + 1) = (62 - 2 * k) + 60 by omega, Nat.pow_add, Nat.mul_div_mul_right _ _ (Nat.two_pow_pos 60)]
    · rw [if_neg h]
      have e2 : m * 2 ^ 60 = m * 2 ^ (2 * k - 64) * 4 * 2 ^ (124 - 2 * (k + 1)) := by
        have : (2 : Nat) ^ 60 = 2 ^ (2 * k - 64) * 4 * 2 ^ (124 - 2 * (k + 1)) := by
          rw [show (4 : Nat) = 2 ^ 2 by decide, ← Nat.pow_add, ← Nat.pow_add]
          congr 1
          omega
        rw [this]
        simp only [Nat.mul_assoc]
      rw [e2, Nat.mul_div_cancel _ (Nat.two_pow_pos _), Nat.mul_mod_left]
  omega
theorem pairT_lt (m k : Nat) : pairT m k < 4 := by
  unfold pairT
  split <;> omega
theorem tops_zero {m : Nat} (hm : m < 2 ^ 64) : topsT m 0 = 0 := by
  unfold topsT
  refine Nat.div_eq_of_lt ?_
  omega
theorem tops_end (m : Nat) : topsT m 62 = m * 2 ^ 60 := by
  unfold topsT
  simp

end Fx
end Go.Proofs.YtfdggebddcoeeaaGreatDoor
