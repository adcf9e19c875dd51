/-
  A part of the proof.
-/
import Derived.Lib.ItoaNum
import Derived.Test.YtfdggebddcoeeaaGreatDoorFbPart4
import Derived.Test.YtfdggebddcoeeaaGreatDoorFbRd
import Derived.Test.YtfdggebddcoeeaaGreatDoorFbPart3
import Derived.Test.YtfdggebddcoeeaaGreatDoorFbFu
set_option linter.unusedVariables false
set_option linter.unusedSimpArgs false
/-
  Len64 by its name; the program's rounding: the keys hold.
-/
set_option maxRecDepth 100000
noncomputable section
namespace Go.Proofs.YtfdggebddcoeeaaGreatDoor
namespace Sx
open Go Go.RowKit

/-- a number's length in bits -/
def lenN (m : Nat) : Nat := if m = 0 then 0 else m.log2 + 1
theorem bitLen_eq {m : Nat} (h : m < 2 ^ 64) : Lib.bitLen m = lenN m := by
  unfold lenN
  split
  · rename_i h0
    subst h0
    rfl
  · rename_i h0
    obtain ⟨h1, h2, h3⟩ := Lib.bitLenAux_bounds 64 m h h0
    have hb := Fx.log2_bounds h0
    unfold Lib.bitLen
    generalize Lib.bitLenAux 64 m = l at *
    have a1 : m.log2 < l := (Nat.pow_lt_pow_iff_right (by decide)).1 (Nat.lt_of_le_of_lt hb.1 h3)
    have a2 : l - 1 < m.log2 + 1 := (Nat.pow_lt_pow_iff_right (by decide)).1 (Nat.lt_of_le_of_lt h2 hb.2)
    omega
theorem lenN_le {m : Nat} (h : m < 2 ^ 64) : lenN m ≤ 64 := by
  unfold lenN
  split
  · omega
  · rename_i h0
    have hb := Fx.log2_bounds h0
    have a1 : m.log2 < 64 := (Nat.pow_lt_pow_iff_right (by decide)).1 (Nat.lt_of_le_of_lt hb.1 h)
    omega
def F1R (c : Nat) (x : Int) : Int := if c = 70007 then (lenN x.toNat : Nat) else 0
def ER (va : Nat → Int) : Env := ⟨F1R, fun _ _ _ => 0, va⟩
theorem lenE_den {va : Nat → Int} {a : SE} (h : inR .u64 (a.den (ER va))) : (lenE a).den (ER va) = (lenN (a.den (ER va)).toNat : Nat) := by
  have hr := emod_range (a.den (ER va)) 64
  rw [u64_id h] at hr
  have h1 := lenN_le (m := (a.den (ER va)).toNat) (by omega)
  show F1R 70007 (a.den (ER va)) % 2 ^ 7 = _
  unfold F1R
  rw [if_pos rfl]
  omega
theorem len_ok {va : Nat → Int} {G : Gl} : SmOk (ER va) Tryz.prog G 148 smLen := by
  intro args hp nx v hp' nx' hv loc w hr hg hw
  unfold smLen at hv
  split at hv
  · rename_i a
    cases hv
    obtain ⟨wa, _⟩ := hw
    have hr' := emod_range (a.den (ER va)) 64
    rw [u64_id wa] at hr'
    have hl := lenN_le (m := (a.den (ER va)).toNat) (by omega)
    refine cx_of_calls okP Tryz.func148 (by kernel_rfl) ((Tryz.len64 (a.den (ER va)) w hr'.1 (by omega)).mono fun e w' ⟨h1, h2⟩ => ?_)
    subst h1 h2
    refine ⟨loc, ?_, step_of_below hr (Below.refl _ _) ?_⟩
    · simp only [SV.den]
      rw [lenE_den wa, bitLen_eq (by omega)]
    · simp only [SV.wf]
      rw [lenE_den wa]
      simp [inR, IntKind.min, IntKind.max, IntKind.signed, IntKind.bits]
      omega
  · cases hv
theorem sumsR_ok {va : Nat → Int} {G : Gl} : SumsOk (ER va) Tryz.prog G sumsR := by
  intro f s h
  unfold sumsR at h
  rcases Tr.get_set h with ⟨rfl, rfl⟩ | ⟨_, h⟩
  · exact len_ok
  · exact sums0_ok f s h

end Sx
end Go.Proofs.YtfdggebddcoeeaaGreatDoor
end

/-
  The program's rounding: the keys hold.
-/
set_option maxRecDepth 100000
noncomputable section
namespace Go.Proofs.YtfdggebddcoeeaaGreatDoor
namespace Sx
open Go Go.RowKit

def sumI (n : Nat) (x : Int) (K : Nat) : Int := (x % 2 ^ 64 * 2 ^ fb n % 2 ^ 64 + K) % 2 ^ 64
def vaR (n : Nat) (ng : Bool) (m : Nat) (e d : Int) (K : Nat) (X : Int) (last q : Nat) (big : Bool) : Nat → Int
  | 0 => cond ng 1 0
  | 1 => m
  | 2 => e
  | 3 => d
  | 5 => K
  | 6 => X
  | 7 => last
  | 8 => q
  | 9 => sumI n (cond big X 0) K
  | 10 => min (sumI n (cond big X 0) K) (infR n)
  | _ => 0
theorem ite_lt_neg {E : Env} {a b x y : SE} (h : ¬ a.den E < b.den E) : (mkIte (mkLt a b) x y).den E = y.den E := by
  rw [mkIte_den, mkLt_den, if_neg h, if_pos rfl]
theorem ite_lt_pos {E : Env} {a b x y : SE} (h : a.den E < b.den E) : (mkIte (mkLt a b) x y).den E = x.den E := by
  rw [mkIte_den, mkLt_den, if_pos h, if_neg (by decide)]
theorem not_lt_den {E : Env} {a b : SE} {t : Bool} (h : t = decide (¬ a.den E < b.den E)) : (mkNot (mkLt a b)).den E = (b01 t).den E := by
  rw [mkNot_den, mkLt_den, h]
  by_cases h1 : a.den E < b.den E
  · rw [if_pos h1, if_neg (by decide), decide_eq_false (by simpa using h1)]; rfl
  · rw [if_neg h1, if_pos rfl, decide_eq_true h1]; rfl
theorem lt_den {E : Env} {a b : SE} {t : Bool} (h : t = decide (a.den E < b.den E)) : (mkLt a b).den E = (b01 t).den E := by
  rw [mkLt_den, h]
  by_cases h1 : a.den E < b.den E
  · rw [if_pos h1, decide_eq_true h1]; rfl
  · rw [if_neg h1, decide_eq_false h1]; rfl
theorem eq_den {E : Env} {a b : SE} {t : Bool} (h : t = decide (a.den E = b.den E)) : (mkEq a b).den E = (b01 t).den E := by
  rw [mkEq_den, h]
  by_cases h1 : a.den E = b.den E
  · rw [if_pos h1, decide_eq_true h1]; rfl
  · rw [if_neg h1, decide_eq_false h1]; rfl
theorem wrap_i64 {x : Int} (h1 : -(2 : Int) ^ 63 ≤ x) (h2 : x < 2 ^ 63) : IntKind.i64.wrap x = x := by
  simp [IntKind.wrap, IntKind.bits, IntKind.signed]
  omega
theorem wrap_u64 (x : Int) : IntKind.u64.wrap x = x % 2 ^ 64 := wrap_unsigned (k := .u64) rfl x
section
variable {n : Nat} {ng : Bool} {m : Nat} {e d : Int} {K : Nat} {X : Int} {last q : Nat} {big over : Bool}
theorem mE_den (hm : m < 2 ^ 64) : mE.den (ER (vaR n ng m e d K X last q big)) = m := by
  show ((m : Nat) : Int) % 2 ^ 64 = m
  omega
theorem eE_den : eE.den (ER (vaR n ng m e d K X last q big)) = e := rfl
theorem dE_den : dE.den (ER (vaR n ng m e d K X last q big)) = d := rfl
theorem kE_den (hK : K < 2 ^ 64) : kE.den (ER (vaR n ng m e d K X last q big)) = K := by
  show ((K : Nat) : Int) % 2 ^ 64 = K
  omega
theorem b01_den {E : Env} (b : Bool) : (b01 b).den E = cond b 1 0 := by cases b <;> rfl
theorem len_mE (hm : m < 2 ^ 64) : (lenE mE).den (ER (vaR n ng m e d K X last q big)) = lenN m := by
  have h : mE.den (ER (vaR n ng m e d K X last q big)) = m := mE_den hm
  have hu : inR .u64 (mE.den (ER (vaR n ng m e d K X last q big))) := by rw [h]; simp [inR, IntKind.min, IntKind.max, IntKind.signed, IntKind.bits]; omega
  rw [lenE_den hu, h, Int.toNat_natCast]
theorem rk0_ok (hn : n = 32 ∨ n = 64) (hm : m < 2 ^ 64) (h0 : m ≠ 0) (he1 : -5000 ≤ e) (he2 : e ≤ 5000) (hd : d = max (e + lenN m - 1 - fb n) (lst n) - e) : ∀ p ∈ rk0 n, p.1.den (ER (vaR n ng m e d K X last q big)) = p.2.den (ER (vaR n ng m e d K X last q big)) := by
  intro p hp
  have hl := lenN_le hm
  have hfb : (fb n = 23 ∧ lst n = -149) ∨ (fb n = 52 ∧ lst n = -1074) := by rcases hn with rfl | rfl <;> decide
  simp only [rk0, List.mem_cons, List.not_mem_nil, or_false] at hp
  rcases hp with rfl | rfl | rfl | rfl
  · show (mkIte (mkLt eE (.lit (-5000))) (.lit (-5000)) eE).den (ER (vaR n ng m e d K X last q big)) = eE.den (ER (vaR n ng m e d K X last q big))
    exact ite_lt_neg (by show ¬ e < -5000; omega)
  · show (mkIte (mkLt (.lit 5000) eE) (.lit 5000) eE).den (ER (vaR n ng m e d K X last q big)) = eE.den (ER (vaR n ng m e d K X last q big))
    exact ite_lt_neg (by show ¬ 5000 < e; omega)
  · have ha : (mkWrap .i64 (mkSub (mkWrap .i64 (mkSub (mkWrap .i64 (mkAdd (lenE mE) eE)) (.lit 1))) (.lit (.ofNat (fb n))))).den (ER (vaR n ng m e d K X last q big)) = e + lenN m - 1 - fb n := by
      have l1 : (SE.lit 1).den (ER (vaR n ng m e d K X last q big)) = 1 := rfl
      have l2 : (SE.lit (.ofNat (fb n))).den (ER (vaR n ng m e d K X last q big)) = (fb n : Int) := rfl
      rw [mkWrap_den, mkSub_den, mkWrap_den, mkSub_den, mkWrap_den, mkAdd_den, len_mE hm, eE_den, l1, l2]
      rw [wrap_i64 (x := (lenN m : Int) + e) (by omega) (by omega), wrap_i64 (x := (lenN m : Int) + e - 1) (by omega) (by omega), wrap_i64 (by omega) (by omega)]
      omega
    have hb : (SE.lit (lst n)).den (ER (vaR n ng m e d K X last q big)) = lst n := rfl
    rw [mkWrap_den, mkSub_den, eE_den, dE_den]
    by_cases h : e + lenN m - 1 - fb n < lst n
    · rw [ite_lt_pos (by rw [ha, hb]; exact h), hb, wrap_i64 (by omega) (by omega)]
      omega
    · rw [ite_lt_neg (by rw [ha, hb]; exact h), ha, wrap_i64 (by omega) (by omega)]
      omega
  · show (mkEq mE (.lit 0)).den (ER (vaR n ng m e d K X last q big)) = (b01 false).den (ER (vaR n ng m e d K X last q big))
    refine eq_den (t := false) ?_
    rw [mE_den hm]
    show false = decide ((m : Int) = 0)
    rw [decide_eq_false (by omega)]
theorem sumI_range (x : Int) : 0 ≤ sumI n x K ∧ sumI n x K < 2 ^ 64 := emod_range _ 64
theorem rkX_ok (hn : n = 32 ∨ n = 64) {k : SE} (hk : k.den (ER (vaR n ng m e d K X last q big)) = K) (hbig : big = decide (2 ^ fb n ≤ K)) (hX : X = e + d - lst n) (he1 : -5000 ≤ e) (he2 : e ≤ 5000) (hd1 : -20000 ≤ d) (hd2 : d ≤ 20000) (hover : over = decide ((2 : Int) ^ eb n ≤ cond big X 0)) : ∀ p ∈ rkX n k big over, p.1.den (ER (vaR n ng m e d K X last q big)) = p.2.den (ER (vaR n ng m e d K X last q big)) := by
  intro p hp
  have hfb : (fb n = 23 ∧ lst n = -149) ∨ (fb n = 52 ∧ lst n = -1074) := by rcases hn with rfl | rfl <;> decide
  have hx : (cond big (SE.var 6) (.lit 0)).den (ER (vaR n ng m e d K X last q big)) = cond big X 0 := by cases big <;> rfl
  have h9 : (SE.var 9).den (ER (vaR n ng m e d K X last q big)) = sumI n (cond big X 0) K := rfl
  have h10 : (SE.var 10).den (ER (vaR n ng m e d K X last q big)) = min (sumI n (cond big X 0) K) (infR n) := rfl
  have hs := sumI_range (n := n) (K := K) (cond big X 0)
  simp only [rkX, List.mem_cons, List.not_mem_nil, or_false] at hp
  rcases hp with rfl | rfl | rfl | rfl | rfl
  · refine not_lt_den ?_
    rw [hk, hbig]
    show _ = decide (¬ (K : Int) < ((2 ^ fb n : Nat) : Int))
    congr 1
    simp only [Int.ofNat_lt, Nat.not_lt]
  · have hb : (SE.lit (lst n)).den (ER (vaR n ng m e d K X last q big)) = lst n := rfl
    rw [mkWrap_den, mkSub_den, mkWrap_den, mkAdd_den, eE_den, dE_den, hb]
    rw [wrap_i64 (x := e + d) (by omega) (by omega), wrap_i64 (by omega) (by omega)]
    exact hX.symm
  · refine not_lt_den ?_
    rw [hx, hover]
    show _ = decide (¬ cond big X 0 < ((2 ^ eb n : Nat) : Int))
    congr 1
    rw [Int.not_lt]
    push_cast
    rfl
  · simp only [mkWrap_den, mkAdd_den, mkShl_den, hx, hk, wrap_u64]
    show _ = (SE.var 9).den (ER (vaR n ng m e d K X last q big)) % 2 ^ 64
    rw [h9, emod_small hs]
    rfl
  · have e9 : (SE.md (.var 9) 64).den (ER (vaR n ng m e d K X last q big)) = sumI n (cond big X 0) K := by
      show (SE.var 9).den (ER (vaR n ng m e d K X last q big)) % 2 ^ 64 = _
      rw [h9, emod_small hs]
    have hi : (infR n = 2139095040 ∧ n = 32) ∨ (infR n = 9218868437227405312 ∧ n = 64) := by rcases hn with rfl | rfl <;> decide
    have e10 : (SE.md (.var 10) (n - 1)).den (ER (vaR n ng m e d K X last q big)) = min (sumI n (cond big X 0) K) (infR n) := by
      show (SE.var 10).den (ER (vaR n ng m e d K X last q big)) % 2 ^ (n - 1) = _
      rw [h10]
      rcases hi with ⟨h1, rfl⟩ | ⟨h1, rfl⟩ <;> rw [h1] <;> exact emod_small ⟨by omega, by omega⟩
    have hb : (SE.lit (.ofNat (infR n))).den (ER (vaR n ng m e d K X last q big)) = (infR n : Int) := rfl
    rw [e10]
    by_cases h : (infR n : Int) < sumI n (cond big X 0) K
    · rw [ite_lt_pos (by rw [e9, hb]; exact h), hb]
      omega
    · rw [ite_lt_neg (by rw [e9, hb]; exact h), e9]
      omega
end

end Sx
end Go.Proofs.YtfdggebddcoeeaaGreatDoor
end

/-
  The program's rounding: what it answers.
-/
set_option maxRecDepth 100000
noncomputable section
namespace Go.Proofs.YtfdggebddcoeeaaGreatDoor
namespace Sx
open Go Go.RowKit

theorem fmt_nums {n : Nat} (hn : n = 32 ∨ n = 64) : (fmtOf n).fractionBits = fb n ∧ (fmtOf n).leastPlace = lst n ∧ (fmtOf n).exponentBits = eb n ∧ (fmtOf n).infRung = infR n := by rcases hn with rfl | rfl <;> decide
theorem isUE_ok {r : R} {e : SE} (h : isUE r e = true) : ∃ hp k, r = some (.int .u64 e, hp, k) := by
  unfold isUE at h
  split at h
  · split at h
    · rename_i k x
      cases h1 : decide (k = IntKind.u64) <;> rw [h1] at h
      · cases h
      · rw [of_decide_eq_true h1, SE.beq_eq h]
        exact ⟨_, _, rfl⟩
    · cases h
  · cases h
def fmtVal (n : Nat) : Value := .agg #[.int .i64 (fb n), .int .i64 (eb n)]
section
variable {n : Nat} {ng : Bool} {m : Nat} {e d : Int} {K : Nat} {X : Int} {last q : Nat} {big over more : Bool}
theorem rd_args (hm : m < 2 ^ 64) : (denL (ER (vaR n ng m e d K X last q big)) loc0 (rdArgs n more)).toArray = #[fmtVal n, .bool ng, .int .u64 m, .int .i64 e, .bool more] := by
  have h1 : mE.den (ER (vaR n ng m e d K X last q big)) = m := mE_den hm
  have h2 : (SE.var 0).den (ER (vaR n ng m e d K X last q big)) = cond ng 1 0 := rfl
  simp only [rdArgs, denL, SV.den, fmtV, numL, h1, h2, b01_den, eE_den]
  cases ng <;> cases more <;> rfl
theorem rd_wf (hn : n = 32 ∨ n = 64) (hm : m < 2 ^ 64) (he1 : -5000 ≤ e) (he2 : e ≤ 5000) : wfL (ER (vaR n ng m e d K X last q big)) 0 (rdArgs n more) := by
  have h1 : mE.den (ER (vaR n ng m e d K X last q big)) = m := mE_den hm
  refine ⟨⟨?_, ?_, trivial⟩, trivial, ?_, ?_, trivial, trivial⟩
  · rcases hn with rfl | rfl <;> exact in_bits (by decide)
  · rcases hn with rfl | rfl <;> exact in_bits (by decide)
  · simp only [SV.wf, h1]
    simp [inR, IntKind.min, IntKind.max, IntKind.signed, IntKind.bits]; omega
  · simp only [SV.wf, eE_den]
    simp [inR, IntKind.min, IntKind.max, IntKind.signed, IntKind.bits]; omega
theorem round_end (hn : n = 32 ∨ n = 64) (hm : m < 2 ^ 64) (he1 : -5000 ≤ e) (he2 : e ≤ 5000) {ks : List (SE × SE)} {s : SE} (h : isUE (rdRun n ks more) s = true) (hk : ∀ p ∈ ks, p.1.den (ER (vaR n ng m e d K X last q big)) = p.2.den (ER (vaR n ng m e d K X last q big))) (w : World) :
    CX Tryz.prog 201 #[fmtVal n, .bool ng, .int .u64 m, .int .i64 e, .bool more] w (fun u w' => u = .int .u64 (s.den (ER (vaR n ng m e d K X last q big))) ∧ Below w.heap.size w w') := by
  obtain ⟨hp, k, hr⟩ := isUE_ok h
  have hc := leafS_cx (E := (ER (vaR n ng m e d K X last q big))) sumsR_ok hr hk (rd_wf hn hm he1 he2) w
  rw [rd_args hm] at hc
  refine cx_mono hc fun v w' hv => ?_
  obtain ⟨⟨loc', h1⟩, h2, _⟩ := hv
  exact ⟨h1, h2⟩
/-- the rung, from what is kept -/
def rungK (n K : Nat) (X : Int) : Nat := if 2 ^ eb n ≤ (if 2 ^ fb n ≤ K then X.toNat else 0) then infR n else min ((if 2 ^ fb n ≤ K then X.toNat else 0) * 2 ^ fb n + K) (infR n)
theorem sgn_den (hn : n = 32 ∨ n = 64) (hK : K ≤ 2 ^ (fb n + 1)) (hX0 : 0 ≤ X) (hX1 : X ≤ 20000) (hbig : big = decide (2 ^ fb n ≤ K)) (hover : over = decide ((2 : Int) ^ eb n ≤ cond big X 0)) : (sgnE n over).den (ER (vaR n ng m e d K X last q big)) = ((fmtOf n).word ng (rungK n K X) : Nat) := by
  have h0 : (SE.var 0).den (ER (vaR n ng m e d K X last q big)) = cond ng 1 0 := rfl
  have hx : cond big X 0 = ((if 2 ^ fb n ≤ K then X.toNat else 0 : Nat) : Int) := by
    rw [hbig]
    by_cases h : 2 ^ fb n ≤ K
    · rw [decide_eq_true h, if_pos h]
      show X = _
      omega
    · rw [decide_eq_false h, if_neg h]
      rfl
  have h10 : (SE.var 10).den (ER (vaR n ng m e d K X last q big)) = min (sumI n (cond big X 0) K) (infR n) := rfl
  have hw : (fmtOf n).signWeight = 2 ^ (n - 1) := fmt_sign hn
  rw [hx] at hover h10
  unfold rungK
  generalize (if 2 ^ fb n ≤ K then X.toNat else 0 : Nat) = x at *
  have hcast : ((2 : Int) ^ eb n ≤ (x : Int)) ↔ 2 ^ eb n ≤ x := by
    have : ((2 ^ eb n : Nat) : Int) = 2 ^ eb n := by push_cast; rfl
    rw [← this]
    exact Int.ofNat_le
  by_cases ho : 2 ^ eb n ≤ x
  · have ht : over = true := by rw [hover]; exact decide_eq_true (hcast.2 ho)
    rw [if_pos ho, ht]
    unfold sgnE Ieee.Format.word
    rw [hw]
    show (SE.ite (.var 0) (.lit (.ofNat (infR n + 2 ^ (n - 1)))) (.lit (.ofNat (infR n)))).den (ER (vaR n ng m e d K X last q big)) = _
    simp only [SE.den]
    show (if (cond ng 1 0 : Int) = 0 then _ else _) = _
    cases ng
    · rfl
    · simp only [cond_true, if_true]
      rw [if_neg (by decide), Nat.add_comm]
      rfl
  · have ht : over = false := by rw [hover]; exact decide_eq_false (fun h => ho (hcast.1 h))
    rw [if_neg ho, ht]
    have hr : min (sumI n (x : Int) K) (infR n) = ((min (x * 2 ^ fb n + K) (infR n) : Nat) : Int) := by
      have : sumI n (x : Int) K = ((x * 2 ^ fb n + K : Nat) : Int) := by
        rcases hn with rfl | rfl
        · have k1 : K ≤ 2 ^ 24 := hK
          have k2 : ¬ 2 ^ 8 ≤ x := ho
          show ((x : Int) % 2 ^ 64 * 2 ^ 23 % 2 ^ 64 + K) % 2 ^ 64 = ((x * 2 ^ 23 + K : Nat) : Int)
          omega
        · have k1 : K ≤ 2 ^ 53 := hK
          have k2 : ¬ 2 ^ 11 ≤ x := ho
          show ((x : Int) % 2 ^ 64 * 2 ^ 52 % 2 ^ 64 + K) % 2 ^ 64 = ((x * 2 ^ 52 + K : Nat) : Int)
          omega
      rw [this]
      omega
    have hlt : min (x * 2 ^ fb n + K) (infR n) < 2 ^ (n - 1) := by
      have : infR n < 2 ^ (n - 1) := by rcases hn with rfl | rfl <;> decide
      omega
    generalize min (x * 2 ^ fb n + K) (infR n) = r at *
    have hmd : (SE.md (.var 10) (n - 1)).den (ER (vaR n ng m e d K X last q big)) = (r : Int) := by
      show (SE.var 10).den (ER (vaR n ng m e d K X last q big)) % 2 ^ (n - 1) = _
      rw [h10, hr]
      refine emod_small ⟨by omega, ?_⟩
      have : ((2 ^ (n - 1) : Nat) : Int) = 2 ^ (n - 1) := by push_cast; rfl
      omega
    unfold sgnE Ieee.Format.word
    rw [hw]
    show (if (cond ng 1 0 : Int) = 0 then (SE.md (.var 10) (n - 1)).den (ER (vaR n ng m e d K X last q big)) else bitsI .or .u64 ((SE.md (.var 10) (n - 1)).den (ER (vaR n ng m e d K X last q big))) ((2 ^ (n - 1) : Nat) : Int)) = _
    rw [hmd]
    cases ng
    · rfl
    · simp only [cond_true, if_true]
      rw [if_neg (by decide)]
      have hp : ((2 ^ (n - 1) : Nat) : Int) = 2 ^ (n - 1) := by push_cast; rfl
      have hlt' : (r : Int) < 2 ^ (n - 1) := by omega
      have hr1 : inR .u64 (r : Int) := by
        rcases hn with rfl | rfl
        · have k : r < 2 ^ 31 := hlt
          simp [inR, IntKind.min, IntKind.max, IntKind.signed, IntKind.bits]
          omega
        · have k : r < 2 ^ 63 := hlt
          simp [inR, IntKind.min, IntKind.max, IntKind.signed, IntKind.bits]
          omega
      have hr2 : inR .u64 (1 * 2 ^ (n - 1)) := by rcases hn with rfl | rfl <;> simp [inR, IntKind.min, IntKind.max, IntKind.signed, IntKind.bits]
      have e0 := or_shl .u64 (r : Int) 1 (n - 1) rfl (by omega) hlt' hr1 hr2
      have e1 : ((2 ^ (n - 1) : Nat) : Int) = 1 * 2 ^ (n - 1) := by omega
      rw [e1, e0]
      omega
end

end Sx
end Go.Proofs.YtfdggebddcoeeaaGreatDoor
end

/-
  Sums, products, quotients, roots: cut short with what is lost told, they round as the exact ones do.
-/
set_option maxRecDepth 10000
namespace Go.Proofs.YtfdggebddcoeeaaGreatDoor
namespace Fx
open Ieee
variable (f : Format)

theorem jam_of_dvd {n j : Nat} (h : n % 2 ^ j = 0) : jam n j = n / 2 ^ j := by unfold jam; rw [if_pos h]
theorem jam_add_even {X Y k : Nat} (hX : X % 2 = 0) : jam (X * 2 ^ k + Y) k = X + jam Y k := by
  have hp := Nat.two_pow_pos k
  have e1 : (X * 2 ^ k + Y) % 2 ^ k = Y % 2 ^ k := by rw [Nat.mul_comm, Nat.mul_add_mod]
  have e2 : (X * 2 ^ k + Y) / 2 ^ k = X + Y / 2 ^ k := by rw [Nat.mul_comm, Nat.mul_add_div hp]
  unfold jam
  rw [e1, e2]
  split
  · rfl
  · omega
theorem jam_sub_even {X Y k : Nat} (hX : X % 2 = 0) (h : Y ≤ X * 2 ^ k) : jam (X * 2 ^ k - Y) k = X - jam Y k ∧ jam Y k ≤ X := by
  have hp := Nat.two_pow_pos k
  have hd := Nat.div_add_mod Y (2 ^ k)
  have hr := Nat.mod_lt Y hp
  have hq : Y / 2 ^ k ≤ X := Nat.div_le_of_le_mul (by rw [Nat.mul_comm]; exact h)
  generalize hqq : Y / 2 ^ k = q at *
  generalize hrr : Y % 2 ^ k = r at *
  by_cases h0 : r = 0
  · have e : X * 2 ^ k - Y = (X - q) * 2 ^ k := by
      rw [← hd, h0, Nat.add_zero, Nat.sub_mul, Nat.mul_comm q]
    have e1 : jam Y k = q := by unfold jam; rw [hrr, if_pos h0, hqq]
    rw [e, e1, jam_of_dvd (Nat.mul_mod_left ..), Nat.mul_div_cancel _ hp]
    exact ⟨rfl, hq⟩
  · have hq2 : q + 1 ≤ X := by
      rcases Nat.lt_or_ge q X with h' | h'
      · exact h'
      · have hm := Nat.mul_le_mul_right (2 ^ k) h'
        rw [Nat.mul_comm q] at hm
        omega
    have e : X * 2 ^ k - Y = (X - q - 1) * 2 ^ k + (2 ^ k - r) := by
      have h1 : X * 2 ^ k = (X - q - 1) * 2 ^ k + (q + 1) * 2 ^ k := by
        rw [← Nat.add_mul]; congr 1; omega
      rw [h1, Nat.add_mul, Nat.one_mul, Nat.mul_comm q]
      omega
    have e1 : jam Y k = 2 * (q / 2) + 1 := by unfold jam; rw [hrr, if_neg h0, hqq]
    have e2 : (X * 2 ^ k - Y) % 2 ^ k = 2 ^ k - r := by
      rw [e, Nat.mul_comm, Nat.mul_add_mod, Nat.mod_eq_of_lt (by omega)]
    have e3 : (X * 2 ^ k - Y) / 2 ^ k = X - q - 1 := by
      rw [e, Nat.mul_comm, Nat.mul_add_div hp, Nat.div_eq_of_lt (by omega), Nat.add_zero]
    rw [e1]
    unfold jam
    rw [e2, e3, if_neg (by omega)]
    omega
/-- a sum of two of one sign -/
theorem rung_sum {x y k : Nat} {d : Int} (hx : k ≠ 0 → 2 ^ f.fractionBits ≤ x) : rung f (x * 2 ^ 10 + jam (y * 2 ^ 10) k) (d + k - 10) = rung f (x * 2 ^ k + y) d := by
  have e : (x * 2 ^ k + y) * 2 ^ 10 = x * 2 ^ 10 * 2 ^ k + y * 2 ^ 10 := by
    rw [Nat.add_mul, Nat.mul_assoc, Nat.mul_comm (2 ^ k), ← Nat.mul_assoc]
  have e0 := rung_scale f (x * 2 ^ k + y) d 10
  rw [e] at e0
  rw [← e0]
  have hev : x * 2 ^ 10 % 2 = 0 := by omega
  have ej := jam_add_even (Y := y * 2 ^ 10) (k := k) hev
  by_cases hk : k = 0
  · subst hk
    rw [jam_zero] at ej ⊢
    rw [Nat.pow_zero, Nat.mul_one]
    congr 1
    omega
  · have h1 := hx hk
    have hj := rung_jam f (x * 2 ^ 10 * 2 ^ k + y * 2 ^ 10) k (d - (10 : Nat)) (by
      rw [Nat.mul_comm, Nat.mul_add_div (Nat.two_pow_pos k)]
      have : 2 ^ (f.fractionBits + 2) = 4 * 2 ^ f.fractionBits := by rw [Nat.pow_succ, Nat.pow_succ]; omega
      generalize y * 2 ^ 10 / 2 ^ k = q
      omega)
    rw [ej] at hj
    rw [← hj]
    congr 1
    omega
/-- a difference -/
theorem rung_diff {x y k : Nat} {d : Int} (hx : k ≠ 0 → 2 ^ f.fractionBits ≤ x) (hy : y < 2 ^ (f.fractionBits + 1)) (hle : y ≤ x * 2 ^ k) :
    rung f (x * 2 ^ 10 - jam (y * 2 ^ 10) k) (d + k - 10) = rung f (x * 2 ^ k - y) d ∧ (x * 2 ^ 10 = jam (y * 2 ^ 10) k ↔ x * 2 ^ k = y) ∧ jam (y * 2 ^ 10) k ≤ x * 2 ^ 10 := by
  have e : (x * 2 ^ k - y) * 2 ^ 10 = x * 2 ^ 10 * 2 ^ k - y * 2 ^ 10 := by
    rw [Nat.sub_mul, Nat.mul_assoc, Nat.mul_comm (2 ^ k), ← Nat.mul_assoc]
  have hle' : y * 2 ^ 10 ≤ x * 2 ^ 10 * 2 ^ k := by
    have := Nat.mul_le_mul_right (2 ^ 10) hle
    rw [Nat.mul_assoc, Nat.mul_comm (2 ^ k), ← Nat.mul_assoc] at this
    exact this
  have e0 := rung_scale f (x * 2 ^ k - y) d 10
  rw [e] at e0
  have hev : x * 2 ^ 10 % 2 = 0 := by omega
  obtain ⟨ej, ejl⟩ := jam_sub_even (Y := y * 2 ^ 10) (k := k) hev hle'
  have hzero : x * 2 ^ 10 = jam (y * 2 ^ 10) k ↔ x * 2 ^ k = y := by
    constructor
    · intro h
      have h0 : jam (x * 2 ^ 10 * 2 ^ k - y * 2 ^ 10) k = 0 := by rw [ej]; omega
      rcases Nat.eq_zero_or_pos (x * 2 ^ 10 * 2 ^ k - y * 2 ^ 10) with hn | hn
      · rw [← e] at hn
        have h3 : x * 2 ^ k - y = 0 := (Nat.mul_eq_zero.1 hn).resolve_right (by decide)
        omega
      · exact absurd h0 (jam_ne (Nat.pos_iff_ne_zero.1 hn))
    · intro h
      have h1 : x * 2 ^ 10 * 2 ^ k - y * 2 ^ 10 = 0 := by rw [← e, h, Nat.sub_self, Nat.zero_mul]
      rw [h1] at ej
      have h2 : jam 0 k = 0 := by rw [jam_of_dvd (Nat.zero_mod _), Nat.zero_div]
      rw [h2] at ej
      omega
  refine ⟨?_, hzero, ejl⟩
  rw [← e0]
  by_cases hk : k = 0
  · subst hk
    rw [jam_zero] at ej ⊢
    rw [Nat.pow_zero, Nat.mul_one]
    congr 1
    omega
  · have h1 := hx hk
    by_cases hk10 : k ≤ 10
    · -- nothing is lost
      have hy10 : y * 2 ^ 10 = y * 2 ^ (10 - k) * 2 ^ k := by
        rw [Nat.mul_assoc, ← pow_split]; congr 2; omega
      have hj : jam (y * 2 ^ 10) k = y * 2 ^ (10 - k) := by
        rw [hy10, jam_of_dvd (Nat.mul_mod_left ..), Nat.mul_div_cancel _ (Nat.two_pow_pos k)]
      rw [hj, hy10, ← Nat.sub_mul]
      have := rung_scale f (x * 2 ^ 10 - y * 2 ^ (10 - k)) (d + k - 10) k
      rw [← this]
      congr 1
      omega
    · have hlow : y * 2 ^ 10 / 2 ^ k < 2 ^ f.fractionBits := by
        refine (Nat.div_lt_iff_lt_mul (Nat.two_pow_pos k)).2 ?_
        have h2 : 2 ^ (f.fractionBits + 1) * 2 ^ 10 ≤ 2 ^ f.fractionBits * 2 ^ k := by
          rw [← pow_split, ← pow_split]
          exact Nat.pow_le_pow_right (by decide) (by omega)
        have h3 : y * 2 ^ 10 < 2 ^ (f.fractionBits + 1) * 2 ^ 10 := Nat.mul_lt_mul_of_pos_right hy (Nat.two_pow_pos 10)
        omega
      have hj := rung_jam f (x * 2 ^ 10 * 2 ^ k - y * 2 ^ 10) k (d - (10 : Nat)) (by
        have hp := Nat.two_pow_pos k
        have h4 : (x * 2 ^ 10 - (y * 2 ^ 10 / 2 ^ k + 1)) * 2 ^ k ≤ x * 2 ^ 10 * 2 ^ k - y * 2 ^ 10 := by
          rw [Nat.sub_mul]
          have h5 := Nat.div_add_mod (y * 2 ^ 10) (2 ^ k)
          have h6 := Nat.mod_lt (y * 2 ^ 10) hp
          rw [Nat.add_mul, Nat.one_mul, Nat.mul_comm (y * 2 ^ 10 / 2 ^ k)]
          omega
        have h7 := (Nat.le_div_iff_mul_le hp).2 h4
        have : 2 ^ (f.fractionBits + 2) = 4 * 2 ^ f.fractionBits := by rw [Nat.pow_succ, Nat.pow_succ]; omega
        have hB := Nat.two_pow_pos f.fractionBits
        omega)
      rw [ej] at hj
      rw [← hj]
      congr 1
      omega

end Fx
end Go.Proofs.YtfdggebddcoeeaaGreatDoor

/-
  Sums and products of two words, as IEEE's own arithmetic gives them, by rungs and signs.
-/
set_option maxRecDepth 10000
namespace Go.Proofs.YtfdggebddcoeeaaGreatDoor
namespace Fx
open Ieee
variable (f : Format)

theorem write_number (s : Bool) (m : Nat) (p : Int) : f.write (.number s m p) = f.word s (rung f m p) := nearest_eq f s m p
theorem mag_zero {r : Nat} : magOf f r = 0 ↔ r = 0 := by
  have := binade_pos f
  unfold magOf
  split <;> omega
theorem place_mono {r s : Nat} (h : r ≤ s) : placeOf f r ≤ placeOf f s := by
  have := Nat.div_le_div_right (c := f.binade) h
  unfold placeOf
  split <;> split <;> omega
theorem mag_units_le {r s : Nat} (h : r ≤ s) : magOf f r ≤ magOf f s * 2 ^ (placeOf f s - placeOf f r).toNat := by
  have hu : units f r ≤ units f s := by
    rcases Nat.lt_or_eq_of_le h with h | rfl
    · exact Nat.le_of_lt (units_lt f h)
    · exact Nat.le_refl _
  rw [units_eq, units_eq] at hu
  have hp := place_mono f h
  have hg := place_ge f r
  have e : 2 ^ (placeOf f s - f.leastPlace).toNat = 2 ^ (placeOf f s - placeOf f r).toNat * 2 ^ (placeOf f r - f.leastPlace).toNat := by rw [← pow_split]; congr 1; omega
  rw [e, ← Nat.mul_assoc] at hu
  exact Nat.le_of_mul_le_mul_right hu (Nat.two_pow_pos _)
/-- the rung of what a rung stands for -/
theorem rung_self {r : Nat} (h : r < f.infRung) : rung f (magOf f r) (placeOf f r) = r := by
  have hB := binade_pos f
  unfold rung
  by_cases h0 : magOf f r = 0
  · rw [if_pos h0]; exact ((mag_zero f).1 h0).symm
  · rw [if_neg h0]
    have hlog : (placeOf f r = f.leastPlace ∧ magOf f r = r ∧ lastP f (magOf f r) (placeOf f r) = f.leastPlace) ∨ (placeOf f r = f.leastPlace + (r / f.binade - 1 : Nat) ∧ 1 ≤ r / f.binade ∧ magOf f r = f.binade + r % f.binade ∧ lastP f (magOf f r) (placeOf f r) = placeOf f r) := by
      by_cases hr : r < f.binade
      · left
        have e1 : placeOf f r = f.leastPlace := by unfold placeOf; rw [if_pos hr]; simp
        have e2 : magOf f r = r := by unfold magOf; rw [if_pos hr]
        rw [e2] at h0 ⊢
        have hl : r.log2 < f.fractionBits := (Nat.log2_lt h0).2 hr
        refine ⟨e1, rfl, ?_⟩
        unfold lastP
        rw [e1]
        omega
      · right
        have e1 : placeOf f r = f.leastPlace + (r / f.binade - 1 : Nat) := by unfold placeOf; rw [if_neg hr]
        have e2 : magOf f r = f.binade + r % f.binade := by unfold magOf; rw [if_neg hr]
        have hm := Nat.mod_lt r hB
        have hb : f.binade = 2 ^ f.fractionBits := rfl
        have hl : (magOf f r).log2 = f.fractionBits := by
          rw [e2]
          refine (Nat.log2_eq_iff (by omega)).2 ⟨by omega, ?_⟩
          rw [Nat.pow_succ]
          omega
        refine ⟨e1, (Nat.one_le_div_iff hB).2 (by omega), e2, ?_⟩
        unfold lastP
        rw [hl, e1]
        omega
    rcases hlog with ⟨e1, e2, e3⟩ | ⟨e1, e2, e3, e4⟩
    · rw [e3, e1, e2]
      simp [rnd_zero]
      omega
    · rw [e4]
      have e5 : (placeOf f r - placeOf f r).toNat = 0 := by omega
      have e6 : (placeOf f r - f.leastPlace).toNat = r / f.binade - 1 := by omega
      rw [e5, rnd_zero, Nat.pow_zero, Nat.mul_one, e3, e6]
      have hd := Nat.div_add_mod r f.binade
      have e7 : (r / f.binade - 1) * f.binade + (f.binade + r % f.binade) = r := by
        obtain ⟨q, hq⟩ : ∃ q, r / f.binade = q + 1 := ⟨r / f.binade - 1, by omega⟩
        rw [hq] at hd ⊢
        rw [Nat.mul_add, Nat.mul_one] at hd
        rw [Nat.add_sub_cancel, Nat.mul_comm q]
        omega
      rw [e7]
      omega
/-- a word out of its sign and its rung -/
theorem word_self {w : Nat} (h : w < 2 * f.signWeight) : f.word (negOf f w) (rungOf f w) = w := by
  have hp : 0 < f.signWeight := Nat.two_pow_pos _
  have hd := Nat.div_add_mod w f.signWeight
  have hm := Nat.mod_lt w hp
  unfold Format.word negOf rungOf
  have hq : w / f.signWeight < 2 := (Nat.div_lt_iff_lt_mul hp).2 (by omega)
  generalize w / f.signWeight = q at *
  generalize w % f.signWeight = r at *
  by_cases h1 : q % 2 = 1
  · have : q = 1 := by omega
    subst this
    rw [Nat.mul_one] at hd
    simpa using hd
  · have : q = 0 := by omega
    subst this
    rw [Nat.mul_zero, Nat.zero_add] at hd
    simpa using hd
/-- no result is a NaN's word -/
theorem word_nan {s : Bool} {r : Nat} (h : r ≤ f.infRung) : isNaN f (f.word s r) = false := by
  unfold isNaN
  rw [word_rung f (Nat.lt_of_le_of_lt h (inf_lt_sign f))]
  exact decide_eq_false (by omega)
theorem write_nan {d : Datum} (h : d.isNaN = false) : isNaN f (f.write d) = false := by
  cases d with
  | number s m p => rw [write_number]; exact word_nan f (rung_le_inf f m p)
  | infinity s => exact word_nan f (Nat.le_refl _)
  | nan s t => cases h
theorem read_isNaN (he : 2 ≤ f.exponentBits) {w : Nat} (h : rungOf f w ≤ f.infRung) : (f.read w).isNaN = false := by
  rcases Nat.lt_or_eq_of_le h with h | h
  · rw [read_number f he h]; rfl
  · rw [read_inf f he h]; rfl
/-! sums -/
theorem sum_num (s t : Bool) {m n : Nat} {i j : Int} (hji : j ≤ i) (hle : n ≤ m * 2 ^ (i - j).toNat) :
    (Datum.number s m i).sum (.number t n j) = some (.number (cond (s == t) s (s && decide (m * 2 ^ (i - j).toNat ≠ n))) (cond (s == t) (m * 2 ^ (i - j).toNat + n) (m * 2 ^ (i - j).toNat - n)) j) := by
  have hmin : min i j = j := by omega
  have e : (m : Int) * 2 ^ (i - j).toNat = ((m * 2 ^ (i - j).toNat : Nat) : Int) := by push_cast; rfl
  have e0 : (n : Int) * 2 ^ (0 : Int).toNat = (n : Int) := by simp
  simp only [Datum.sum, hmin, Int.sub_self, signed_eq, e, e0]
  generalize m * 2 ^ (i - j).toNat = M at *
  have fin : ∀ (a b : Bool) (x y : Nat), a = b → x = y → (some (Datum.number a x j)) = some (.number b y j) := fun a b x y h1 h2 => by rw [h1, h2]
  cases s <;> cases t <;> simp only [Bool.false_eq_true, if_false, if_true, BEq.rfl, cond_true, cond_false, Bool.and_false, Bool.and_true, Bool.true_and, Bool.false_and, show (false == true) = false from rfl, show (true == false) = false from rfl] <;> refine fin _ _ _ _ ?_ ?_
  · split
    · rfl
    · exact decide_eq_false (by omega)
  · omega
  · split
    · rfl
    · exact decide_eq_false (by omega)
  · omega
  · by_cases h : M = n
    · rw [if_pos (by omega), decide_eq_false (fun h' => h' h)]
    · rw [if_neg (by omega), decide_eq_true (by omega), decide_eq_true h]
  · omega
  · split
    · rfl
    · exact decide_eq_true (by omega)
  · omega
theorem sum_comm (s t : Bool) (m n : Nat) (i j : Int) : (Datum.number s m i).sum (.number t n j) = (Datum.number t n j).sum (.number s m i) := by
  simp only [Datum.sum]
  rw [Int.min_comm j i, Int.add_comm (signed t n _) (signed s m _), Bool.and_comm t s]
def addN (p q : Nat) : Nat := cond (negOf f p == negOf f q) (magOf f (rungOf f p) * 2 ^ (placeOf f (rungOf f p) - placeOf f (rungOf f q)).toNat + magOf f (rungOf f q)) (magOf f (rungOf f p) * 2 ^ (placeOf f (rungOf f p) - placeOf f (rungOf f q)).toNat - magOf f (rungOf f q))
def addS (p q : Nat) : Bool := cond (negOf f p == negOf f q) (negOf f p) (negOf f p && decide (magOf f (rungOf f p) * 2 ^ (placeOf f (rungOf f p) - placeOf f (rungOf f q)).toNat ≠ magOf f (rungOf f q)))
def addW (p q : Nat) : Nat := f.word (addS f p q) (rung f (addN f p q) (placeOf f (rungOf f q)))
theorem add_num_ge (he : 2 ≤ f.exponentBits) {p q : Nat} (hp : rungOf f p < f.infRung) (h : rungOf f q ≤ rungOf f p) : f.add p q = some (addW f p q) ∧ f.add q p = some (addW f p q) := by
  have h1 := sum_num (negOf f p) (negOf f q) (place_mono f h) (mag_units_le f h)
  have hq : rungOf f q < f.infRung := by omega
  have e : some (f.write (.number (addS f p q) (addN f p q) (placeOf f (rungOf f q)))) = some (addW f p q) := by rw [write_number]; rfl
  constructor
  · unfold Format.add
    rw [read_number f he hp, read_number f he hq, h1]
    exact e
  · unfold Format.add
    rw [read_number f he hp, read_number f he hq, sum_comm, h1]
    exact e
theorem addW_zero {p q : Nat} (hw : p < 2 * f.signWeight) (hp : rungOf f p < f.infRung) (hp0 : rungOf f p ≠ 0) (hq : rungOf f q = 0) : addW f p q = p := by
  have hm : magOf f (rungOf f q) = 0 := (mag_zero f).2 hq
  have hmp : magOf f (rungOf f p) ≠ 0 := fun h => hp0 ((mag_zero f).1 h)
  have hmul : magOf f (rungOf f p) * 2 ^ (placeOf f (rungOf f p) - placeOf f (rungOf f q)).toNat ≠ 0 := by
    have := Nat.mul_pos (Nat.pos_of_ne_zero hmp) (Nat.two_pow_pos (placeOf f (rungOf f p) - placeOf f (rungOf f q)).toNat)
    omega
  have hS : addS f p q = negOf f p := by
    unfold addS
    rw [hm, decide_eq_true hmul, Bool.and_true]
    cases negOf f p == negOf f q <;> rfl
  have hN : addN f p q = magOf f (rungOf f p) * 2 ^ (placeOf f (rungOf f p) - placeOf f (rungOf f q)).toNat := by
    unfold addN
    rw [hm]
    cases negOf f p == negOf f q <;> rfl
  have hpl := place_mono f (show rungOf f q ≤ rungOf f p by omega)
  unfold addW
  rw [hS, hN]
  have := rung_scale f (magOf f (rungOf f p)) (placeOf f (rungOf f p)) (placeOf f (rungOf f p) - placeOf f (rungOf f q)).toNat
  rw [show placeOf f (rungOf f p) - ((placeOf f (rungOf f p) - placeOf f (rungOf f q)).toNat : Int) = placeOf f (rungOf f q) by omega] at this
  rw [this, rung_self f hp, word_self f hw]
theorem add_inf (he : 2 ≤ f.exponentBits) {p q : Nat} (hw : p < 2 * f.signWeight) (hp : rungOf f p = f.infRung) (hq : rungOf f q ≤ f.infRung) :
    f.add p q = (if rungOf f q = f.infRung ∧ negOf f p ≠ negOf f q then none else some p) ∧ f.add q p = (if rungOf f q = f.infRung ∧ negOf f p ≠ negOf f q then none else some p) := by
  have hself : f.word (negOf f p) f.infRung = p := by rw [← hp]; exact word_self f hw
  have hwr : f.write (.infinity (negOf f p)) = p := hself
  rcases Nat.lt_or_eq_of_le hq with h | h
  · have hne : ¬ (rungOf f q = f.infRung ∧ negOf f p ≠ negOf f q) := fun h' => by omega
    rw [if_neg hne]
    unfold Format.add
    rw [read_inf f he hp, read_number f he h]
    simp only [Datum.sum, Option.map_some, hwr, and_self]
  · unfold Format.add
    rw [read_inf f he hp, read_inf f he h]
    by_cases hs : negOf f p = negOf f q
    · have hne : ¬ (rungOf f q = f.infRung ∧ negOf f p ≠ negOf f q) := fun h' => h'.2 hs
      rw [if_neg hne]
      simp only [Datum.sum, ← hs, if_true, Option.map_some, hwr, and_self]
    · rw [if_pos ⟨h, hs⟩]
      have hs' : ¬ negOf f q = negOf f p := fun h' => hs h'.symm
      simp only [Datum.sum, if_neg hs, if_neg hs', Option.map_none, and_self]
/-- a word with the other sign -/
def flip (w : Nat) : Nat := f.word (!negOf f w) (rungOf f w)
theorem rung_lt_sign (w : Nat) : rungOf f w < f.signWeight := Nat.mod_lt _ (Nat.two_pow_pos _)
theorem flip_rung (w : Nat) : rungOf f (flip f w) = rungOf f w := word_rung f (rung_lt_sign f w)
theorem flip_neg (w : Nat) : negOf f (flip f w) = !negOf f w := word_neg f (rung_lt_sign f w)
theorem sub_flip (he : 2 ≤ f.exponentBits) {a b : Nat} (hb : rungOf f b ≤ f.infRung) : f.sub a b = f.add a (flip f b) := by
  have hr : f.read (flip f b) = (f.read b).opposite := by
    rcases Nat.lt_or_eq_of_le hb with h | h
    · rw [read_number f he (by rw [flip_rung]; exact h), read_number f he h, flip_rung, flip_neg]
      rfl
    · rw [read_inf f he (by rw [flip_rung]; exact h), read_inf f he h, flip_neg]
      rfl
  unfold Format.sub Format.add
  rw [hr]
/-! products -/
theorem xor_ne (s t : Bool) : (s ^^ t) = (s != t) := by cases s <;> cases t <;> rfl
theorem xor_ne' (s t : Bool) : (s ^^ t) = (t != s) := by cases s <;> cases t <;> rfl
theorem mul_num (he : 2 ≤ f.exponentBits) {a b : Nat} (ha : rungOf f a < f.infRung) (hb : rungOf f b < f.infRung) : f.mul a b = some (f.word (negOf f a != negOf f b) (rung f (magOf f (rungOf f a) * magOf f (rungOf f b)) (placeOf f (rungOf f a) + placeOf f (rungOf f b)))) := by
  unfold Format.mul
  rw [read_number f he ha, read_number f he hb]
  simp only [Datum.product, Option.map_some, write_number]
theorem mul_none (he : 2 ≤ f.exponentBits) {a b : Nat} (ha : rungOf f a ≤ f.infRung) (hb : rungOf f b ≤ f.infRung) (hi : rungOf f a = f.infRung ∨ rungOf f b = f.infRung) (hz : rungOf f a = 0 ∨ rungOf f b = 0) : f.mul a b = none := by
  have hpos : 0 < f.infRung := Nat.lt_of_lt_of_le (binade_pos f) (inf_ge f he)
  unfold Format.mul
  rcases hi with hi | hi
  · have hb0 : rungOf f b = 0 := by omega
    have hm : magOf f (rungOf f b) = 0 := (mag_zero f).2 hb0
    rw [read_inf f he hi, read_number f he (by omega), hm]
    simp only [Datum.product, if_true, Option.map_none]
  · have ha0 : rungOf f a = 0 := by omega
    have hm : magOf f (rungOf f a) = 0 := (mag_zero f).2 ha0
    rw [read_inf f he hi, read_number f he (by omega), hm]
    simp only [Datum.product, if_true, Option.map_none]
theorem mul_infs (he : 2 ≤ f.exponentBits) {a b : Nat} (ha : rungOf f a ≤ f.infRung) (hb : rungOf f b ≤ f.infRung) (hi : rungOf f a = f.infRung ∨ rungOf f b = f.infRung) (hz : ¬ (rungOf f a = 0 ∨ rungOf f b = 0)) : f.mul a b = some (f.word (negOf f a != negOf f b) f.infRung) := by
  have ma : magOf f (rungOf f a) ≠ 0 := fun h => hz (.inl ((mag_zero f).1 h))
  have mb : magOf f (rungOf f b) ≠ 0 := fun h => hz (.inr ((mag_zero f).1 h))
  unfold Format.mul
  rcases Nat.lt_or_eq_of_le ha with h1 | h1 <;> rcases Nat.lt_or_eq_of_le hb with h2 | h2
  · omega
  · rw [read_number f he h1, read_inf f he h2]
    simp only [Datum.product, if_neg ma, Option.map_some]
    rw [xor_ne']
    rfl
  · rw [read_inf f he h1, read_number f he h2]
    simp only [Datum.product, if_neg mb, Option.map_some]
    rw [xor_ne]
    rfl
  · rw [read_inf f he h1, read_inf f he h2]
    simp only [Datum.product, Option.map_some]
    rw [xor_ne]
    rfl

end Fx
end Go.Proofs.YtfdggebddcoeeaaGreatDoor

/-
  Quotients and roots with what is left over told: as many more digits as one likes round alike.
-/
set_option maxRecDepth 10000
namespace Go.Proofs.YtfdggebddcoeeaaGreatDoor
namespace Fx
open Ieee
variable (f : Format)

/-- A / N in halves; the last bit tells of what is left -/
def SF (A N : Nat) : Nat := 2 * (A / N) + (if A % N ≠ 0 then 1 else 0)
theorem SF_half (A N : Nat) (hN : 0 < N) : SF (2 * A) N / 2 = 2 * A / N := by
  unfold SF
  split <;> omega
theorem jam_SF (A N : Nat) (hN : 0 < N) : jam (SF (2 * A) N) 1 = SF A N := by
  have h1 := Nat.div_add_mod A N
  have h2 := Nat.mod_lt A hN
  have h3 := Nat.div_add_mod (2 * A) N
  have h4 := Nat.mod_lt (2 * A) hN
  have hhalf : 2 * A / N / 2 = A / N := by
    rw [Nat.div_div_eq_div_mul, Nat.mul_comm N 2, Nat.mul_div_mul_left _ _ (by decide)]
  have hj : jam (SF (2 * A) N) 1 = if SF (2 * A) N % 2 = 0 then SF (2 * A) N / 2 else 2 * (SF (2 * A) N / 2 / 2) + 1 := by unfold jam; rw [Nat.pow_one]
  rw [hj, SF_half A N hN, hhalf]
  unfold SF
  generalize hu : 2 * A / N = u at *
  generalize hv : A / N = v at *
  generalize hr : A % N = r at *
  generalize hs : 2 * A % N = s at *
  have key : 2 * v = u ∨ 2 * v + 1 = u := by omega
  by_cases hs0 : s = 0
  · subst hs0
    simp only [ne_eq, not_true_eq_false, if_false, Nat.add_zero]
    have e : 2 * u % 2 = 0 := by omega
    rw [if_pos e]
    rcases key with k | k
    · have : r = 0 := by
        have e1 : N * u = N * v + N * v := by rw [← k, Nat.mul_comm 2 v, ← Nat.mul_assoc, Nat.mul_two]
        omega
      rw [if_neg (by omega)]
      omega
    · have : r ≠ 0 := by
        intro h0
        have e1 : N * u = N * v + N * v + N := by rw [← k, Nat.mul_add, Nat.mul_comm 2 v, ← Nat.mul_assoc, Nat.mul_two, Nat.mul_one]
        omega
      rw [if_pos this]
      omega
  · have hr0 : r ≠ 0 := by
      intro h0
      subst h0
      have hA : A = N * v := by omega
      have : 2 * A % N = 0 := by rw [hA, ← Nat.mul_assoc, Nat.mul_comm 2 N, Nat.mul_assoc]; exact Nat.mul_mod_right ..
      omega
    rw [if_pos hs0, if_pos hr0, if_neg (by omega)]
theorem rung_SF {A N : Nat} (hN : 0 < N) (h : 2 ^ (f.fractionBits + 2) ≤ 2 * A / N) (p : Int) : ∀ t : Nat, rung f (SF (A * 2 ^ t) N) p = rung f (SF A N) (p + t) := by
  intro t
  induction t generalizing p with
  | zero => simp
  | succ t ih =>
    have e1 : A * 2 ^ (t + 1) = 2 * (A * 2 ^ t) := by rw [Nat.pow_succ]; rw [← Nat.mul_assoc]; omega
    have hge : 2 * A / N ≤ 2 * (A * 2 ^ t) / N := Nat.div_le_div_right (by
      have := Nat.le_mul_of_pos_right A (Nat.two_pow_pos t)
      omega)
    have hj := rung_jam f (SF (2 * (A * 2 ^ t)) N) 1 p (by rw [Nat.pow_one, SF_half _ _ hN]; omega)
    rw [e1, ← hj, jam_SF _ _ hN]
    have := ih (p + (1 : Nat))
    rw [this]
    congr 1
    push_cast
    omega
/-- the same number of units, given by two pairs -/
theorem SF_scale (A N k : Nat) (hk : 0 < k) : SF (A * k) (N * k) = SF A N := by
  unfold SF
  rw [Nat.mul_div_mul_right _ _ hk, Nat.mul_mod_mul_right]
  have : (A % N * k ≠ 0) ↔ A % N ≠ 0 := by
    constructor
    · intro h h0; rw [h0, Nat.zero_mul] at h; exact h rfl
    · intro h h0
      rcases Nat.mul_eq_zero.1 h0 with h1 | h1
      · exact h h1
      · omega
  simp only [this]

/-! roots -/
/-- w is n's root, cut -/
def IsRoot (n w : Nat) : Prop := w * w ≤ n ∧ n < (w + 1) * (w + 1)
theorem IsRoot.unique {n v w : Nat} (hv : IsRoot n v) (hw : IsRoot n w) : v = w := by
  rcases Nat.lt_trichotomy v w with h | h | h
  · have := Nat.mul_le_mul h h
    have h1 := hv.2
    have h2 := hw.1
    simp only [Nat.succ_eq_add_one] at this
    omega
  · exact h
  · have := Nat.mul_le_mul h h
    have h1 := hw.2
    have h2 := hv.1
    simp only [Nat.succ_eq_add_one] at this
    omega
theorem rootFrom_ok (n : Nat) : ∀ (todo root : Nat), root * root ≤ n → n < (root + 2 ^ todo) * (root + 2 ^ todo) → IsRoot n (Datum.rootFrom n todo root) := by
  intro todo
  induction todo with
  | zero => intro root h1 h2; exact ⟨h1, h2⟩
  | succ t ih =>
    intro root h1 h2
    simp only [Datum.rootFrom, Nat.shiftLeft_eq, Nat.one_mul]
    have e : root + 2 ^ (t + 1) = root + 2 ^ t + 2 ^ t := by rw [Nat.pow_succ]; omega
    rw [e] at h2
    split
    · rename_i hle
      exact ih _ hle h2
    · rename_i hle
      exact ih _ h1 (by omega)
theorem root_whole (n : Nat) : IsRoot n (Datum.rootFrom n (n.log2 / 2 + 1) 0) := by
  refine rootFrom_ok n _ 0 (by omega) ?_
  rw [Nat.zero_add, ← pow_split]
  have : n < 2 ^ (n.log2 + 1) := Nat.lt_log2_self
  exact Nat.lt_of_lt_of_le this (Nat.pow_le_pow_right (by decide) (by omega))
/-- a root in halves; the last bit tells that it is not the whole root -/
def SR (n w : Nat) : Nat := 2 * w + (if w * w ≠ n then 1 else 0)
theorem isRoot_four {n w u : Nat} (hw : IsRoot n w) (hu : IsRoot (4 * n) u) : u / 2 = w := by
  refine IsRoot.unique (n := n) ⟨?_, ?_⟩ hw
  · have h1 := hu.1
    have h2 : 2 * (u / 2) ≤ u := by omega
    have h3 := Nat.mul_le_mul h2 h2
    have h4 : 2 * (u / 2) * (2 * (u / 2)) = 4 * (u / 2 * (u / 2)) := by
      rw [Nat.mul_mul_mul_comm]
    omega
  · have h1 := hu.2
    have h2 : u + 1 ≤ 2 * (u / 2 + 1) := by omega
    have h3 := Nat.mul_le_mul h2 h2
    have h4 : 2 * (u / 2 + 1) * (2 * (u / 2 + 1)) = 4 * ((u / 2 + 1) * (u / 2 + 1)) := by
      rw [Nat.mul_mul_mul_comm]
    omega
theorem jam_SR {n w u : Nat} (hw : IsRoot n w) (hu : IsRoot (4 * n) u) : jam (SR (4 * n) u) 1 = SR n w := by
  have h2 := isRoot_four hw hu
  have hj : jam (SR (4 * n) u) 1 = if SR (4 * n) u % 2 = 0 then SR (4 * n) u / 2 else 2 * (SR (4 * n) u / 2 / 2) + 1 := by unfold jam; rw [Nat.pow_one]
  rw [hj]
  unfold SR
  by_cases hs : u * u = 4 * n
  · have hev : u % 2 = 0 := by
      rcases Nat.mod_two_eq_zero_or_one u with h | h
      · exact h
      · exfalso
        have : u * u % 2 = 1 := by rw [Nat.mul_mod, h]
        omega
    have hu2 : u = 2 * w := by omega
    have hn : w * w = n := by
      have h4 : 2 * w * (2 * w) = 4 * (w * w) := by rw [Nat.mul_mul_mul_comm]
      rw [hu2, h4] at hs
      omega
    have c1 : (if u * u ≠ 4 * n then 1 else 0) = 0 := if_neg (fun h => h hs)
    have c2 : (if w * w ≠ n then 1 else 0) = 0 := if_neg (fun h => h hn)
    rw [c1, c2, Nat.add_zero, if_pos (by omega)]
    omega
  · have hn : w * w ≠ n := by
      intro h
      have h4 : 2 * w * (2 * w) = 4 * (w * w) := by rw [Nat.mul_mul_mul_comm]
      have h5 : IsRoot (4 * n) (2 * w) := ⟨by rw [h4, h]; exact Nat.le_refl _, by
        have : (2 * w + 1) * (2 * w + 1) = 2 * w * (2 * w) + 4 * w + 1 := by
          rw [Nat.add_mul, Nat.mul_add]; omega
        rw [this, h4, h]; omega⟩
      have := hu.unique h5
      rw [this, h4, h] at hs
      exact hs rfl
    have c1 : (if u * u ≠ 4 * n then 1 else 0) = 1 := if_pos hs
    have c2 : (if w * w ≠ n then 1 else 0) = 1 := if_pos hn
    rw [c1, c2, if_neg (by omega)]
    omega
theorem rung_SR {n w : Nat} (hw : IsRoot n w) (h : 2 ^ (f.fractionBits + 2) ≤ 2 * w) (p : Int) : ∀ (t u : Nat), IsRoot (4 ^ t * n) u → rung f (SR (4 ^ t * n) u) p = rung f (SR n w) (p + t) := by
  intro t
  induction t generalizing p with
  | zero =>
    intro u hu
    rw [Nat.pow_zero, Nat.one_mul] at hu ⊢
    rw [hu.unique hw]
    simp
  | succ t ih =>
    intro u hu
    obtain ⟨v, hv⟩ : ∃ v, IsRoot (4 ^ t * n) v := ⟨_, root_whole _⟩
    have e1 : 4 ^ (t + 1) * n = 4 * (4 ^ t * n) := by rw [Nat.pow_succ, Nat.mul_comm (4 ^ t), Nat.mul_assoc]
    rw [e1] at hu ⊢
    have hvw : w ≤ v := by
      rcases Nat.lt_or_ge v w with h' | h'
      · exfalso
        have h3 := Nat.mul_le_mul h' h'
        have h4 := hw.1
        have h5 := hv.2
        have h6 : n ≤ 4 ^ t * n := Nat.le_mul_of_pos_left _ (Nat.pow_pos (by decide))
        simp only [Nat.succ_eq_add_one] at h3
        omega
      · exact h'
    have hu2 := isRoot_four hv hu
    have hj := rung_jam f (SR (4 * (4 ^ t * n)) u) 1 p (by
      rw [Nat.pow_one]
      unfold SR
      split <;> omega)
    rw [← hj, jam_SR hv hu, ih (p + (1 : Nat)) v hv]
    congr 1
    push_cast
    omega

end Fx
end Go.Proofs.YtfdggebddcoeeaaGreatDoor

/-
  Quotients and roots of two words, as IEEE's own arithmetic gives them, and as the program works them out.
-/
set_option maxRecDepth 10000
namespace Go.Proofs.YtfdggebddcoeeaaGreatDoor
namespace Fx
open Ieee
variable (f : Format)

theorem toNat_ne (x y : Nat) : (x != y).toNat = if x ≠ y then 1 else 0 := by
  by_cases h : x = y
  · subst h; simp
  · simp [h]
/-! quotients -/
def moreQ (m n : Nat) : Nat := f.fractionBits + 2 + n.log2 - m.log2
def divW (a b : Nat) : Nat := f.word (negOf f a != negOf f b) (rung f (SF (magOf f (rungOf f a) * 2 ^ moreQ f (magOf f (rungOf f a)) (magOf f (rungOf f b))) (magOf f (rungOf f b))) (placeOf f (rungOf f a) - placeOf f (rungOf f b) - moreQ f (magOf f (rungOf f a)) (magOf f (rungOf f b)) - 1))
theorem div_num (he : 2 ≤ f.exponentBits) {a b : Nat} (ha : rungOf f a < f.infRung) (hb : rungOf f b < f.infRung) (h0 : rungOf f b ≠ 0) : f.div a b = some (divW f a b) := by
  have hx := xor_ne
  have mb : magOf f (rungOf f b) ≠ 0 := fun h => h0 ((mag_zero f).1 h)
  unfold Format.div
  rw [read_number f he ha, read_number f he hb]
  simp only [Datum.quotient, if_neg mb, Option.map_some, write_number, Nat.shiftLeft_eq, toNat_ne, hx]
  rfl
theorem div_none (he : 2 ≤ f.exponentBits) {a b : Nat} (h : (rungOf f a = f.infRung ∧ rungOf f b = f.infRung) ∨ (rungOf f a = 0 ∧ rungOf f b = 0)) : f.div a b = none := by
  have hpos : 0 < f.infRung := Nat.lt_of_lt_of_le (binade_pos f) (inf_ge f he)
  unfold Format.div
  rcases h with ⟨h1, h2⟩ | ⟨h1, h2⟩
  · rw [read_inf f he h1, read_inf f he h2]; rfl
  · have ma : magOf f (rungOf f a) = 0 := (mag_zero f).2 h1
    have mb : magOf f (rungOf f b) = 0 := (mag_zero f).2 h2
    rw [read_number f he (by omega), read_number f he (by omega), ma, mb]
    simp only [Datum.quotient, if_true, Option.map_none]
theorem div_toInf (he : 2 ≤ f.exponentBits) {a b : Nat} (ha : rungOf f a ≤ f.infRung) (hb : rungOf f b < f.infRung) (h : (rungOf f a = f.infRung) ∨ (rungOf f a ≠ 0 ∧ rungOf f b = 0)) : f.div a b = some (f.word (negOf f a != negOf f b) f.infRung) := by
  have hx := xor_ne
  unfold Format.div
  rcases Nat.lt_or_eq_of_le ha with h1 | h1
  · rcases h with h | ⟨h2, h3⟩
    · omega
    · have ma : magOf f (rungOf f a) ≠ 0 := fun h => h2 ((mag_zero f).1 h)
      have mb : magOf f (rungOf f b) = 0 := (mag_zero f).2 h3
      rw [read_number f he h1, read_number f he hb, mb]
      simp only [Datum.quotient, if_true, if_neg ma, Option.map_some, hx]
      rfl
  · rw [read_inf f he h1, read_number f he hb]
    simp only [Datum.quotient, Option.map_some, hx]
    rfl
theorem div_toZero (he : 2 ≤ f.exponentBits) {a b : Nat} (ha : rungOf f a < f.infRung) (hb : rungOf f b ≤ f.infRung) (h : (rungOf f b = f.infRung) ∨ (rungOf f b ≠ 0 ∧ rungOf f a = 0)) : f.div a b = some (f.word (negOf f a != negOf f b) 0) := by
  have hx := xor_ne
  have hz : ∀ p, rung f 0 p = 0 := fun p => by unfold rung; rw [if_pos rfl]
  rcases Nat.lt_or_eq_of_le hb with h1 | h1
  · rcases h with h | ⟨h2, h3⟩
    · omega
    · have ma : magOf f (rungOf f a) = 0 := (mag_zero f).2 h3
      rw [div_num f he ha h1 h2]
      unfold divW
      rw [ma, Nat.zero_mul]
      have : SF 0 (magOf f (rungOf f b)) = 0 := by unfold SF; simp
      rw [this, hz]
  · unfold Format.div
    rw [read_number f he ha, read_inf f he h1]
    simp only [Datum.quotient, Option.map_some, write_number, hx, hz]
/-- a quotient of numbers that were moved up -/
theorem rung_quot {m n : Nat} (hm : m ≠ 0) (hn : n ≠ 0) {u v : Nat} (hv : v ≤ 64) (hu : f.fractionBits + 2 + n.log2 + v ≤ m.log2 + u + 64) (p : Int) :
    rung f (SF (m * 2 ^ u * 2 ^ 64) (n * 2 ^ v)) (p - u + v - 65) = rung f (SF (m * 2 ^ moreQ f m n) n) (p - moreQ f m n - 1) := by
  have hbn := log2_bounds hn
  have hbm := log2_bounds hm
  obtain ⟨t, ht⟩ : ∃ t, moreQ f m n + t + v = u + 64 := ⟨u + 64 - v - moreQ f m n, by unfold moreQ; omega⟩
  have e1 : m * 2 ^ u * 2 ^ 64 = m * 2 ^ moreQ f m n * 2 ^ t * 2 ^ v := by
    rw [Nat.mul_assoc, ← pow_split, ← ht, pow_split, pow_split]
    simp only [Nat.mul_assoc]
  rw [e1, SF_scale _ _ _ (Nat.two_pow_pos v)]
  have hbig : 2 ^ (f.fractionBits + 2) ≤ 2 * (m * 2 ^ moreQ f m n) / n := by
    refine (Nat.le_div_iff_mul_le (Nat.pos_of_ne_zero hn)).2 ?_
    have h1 : 2 ^ (f.fractionBits + 2 + n.log2) ≤ m * 2 ^ moreQ f m n := by
      have h2 : 2 ^ (f.fractionBits + 2 + n.log2) ≤ 2 ^ (m.log2 + moreQ f m n) := Nat.pow_le_pow_right (by decide) (by unfold moreQ; omega)
      rw [pow_split m.log2 (moreQ f m n)] at h2
      exact Nat.le_trans h2 (Nat.mul_le_mul_right _ hbm.1)
    have h3 : 2 ^ (f.fractionBits + 2) * n ≤ 2 ^ (f.fractionBits + 2) * 2 ^ (n.log2 + 1) := Nat.mul_le_mul_left _ (Nat.le_of_lt hbn.2)
    have h4 : 2 ^ (f.fractionBits + 2) * 2 ^ (n.log2 + 1) = 2 * 2 ^ (f.fractionBits + 2 + n.log2) := by
      rw [Nat.pow_succ 2 n.log2, ← Nat.mul_assoc, ← pow_split, Nat.mul_comm]
    omega
  rw [rung_SF f (Nat.pos_of_ne_zero hn) hbig]
  congr 1
  omega
/-- halves, with what is left over told apart -/
theorem rung_half (A N : Nat) (e : Int) : rung f (SF A N) (e - 1) = if A % N = 0 then rung f (A / N) e else rung f (2 * (A / N) + 1) (e - 1) := by
  unfold SF
  by_cases h : A % N = 0
  · rw [if_neg (fun h' => h' h), if_pos h, Nat.add_zero, Nat.mul_comm]
    have := rung_scale f (A / N) e 1
    rw [Nat.pow_one] at this
    exact this
  · rw [if_pos h, if_neg h]

/-! roots -/
def moreR (m : Nat) (i : Int) : Nat := (2 * (f.fractionBits + 2) - m.log2) + ((i - (2 * (f.fractionBits + 2) - m.log2 : Nat)) % 2).toNat
theorem sqrt_num (he : 2 ≤ f.exponentBits) {a : Nat} (ha : rungOf f a < f.infRung) (h0 : rungOf f a ≠ 0) (hs : negOf f a = false) :
    ∃ w, IsRoot (magOf f (rungOf f a) * 2 ^ moreR f (magOf f (rungOf f a)) (placeOf f (rungOf f a))) w ∧
      f.sqrt a = some (f.word false (rung f (SR (magOf f (rungOf f a) * 2 ^ moreR f (magOf f (rungOf f a)) (placeOf f (rungOf f a))) w) ((placeOf f (rungOf f a) - moreR f (magOf f (rungOf f a)) (placeOf f (rungOf f a))) / 2 - 1))) := by
  have ma : magOf f (rungOf f a) ≠ 0 := fun h => h0 ((mag_zero f).1 h)
  refine ⟨_, root_whole _, ?_⟩
  unfold Format.sqrt
  rw [read_number f he ha, hs]
  simp only [Datum.root, if_neg ma, Bool.false_eq_true, if_false, Option.map_some, write_number, Nat.shiftLeft_eq, toNat_ne]
  unfold SR moreR
  push_cast
  rfl
theorem sqrt_none (he : 2 ≤ f.exponentBits) {a : Nat} (ha : rungOf f a ≤ f.infRung) (h0 : rungOf f a ≠ 0) (hs : negOf f a = true) : f.sqrt a = none := by
  have ma : magOf f (rungOf f a) ≠ 0 := fun h => h0 ((mag_zero f).1 h)
  unfold Format.sqrt
  rcases Nat.lt_or_eq_of_le ha with h1 | h1
  · rw [read_number f he h1, hs]
    simp only [Datum.root, if_neg ma, if_true, Option.map_none]
  · rw [read_inf f he h1, hs]
    simp only [Datum.root, if_true, Option.map_none]
theorem sqrt_inf (he : 2 ≤ f.exponentBits) {a : Nat} (h1 : rungOf f a = f.infRung) (hs : negOf f a = false) : f.sqrt a = some (f.word false f.infRung) := by
  unfold Format.sqrt
  rw [read_inf f he h1, hs]
  simp only [Datum.root, Bool.false_eq_true, if_false, Option.map_some]
  rfl
theorem sqrt_zero (he : 2 ≤ f.exponentBits) {a : Nat} (hw : a < 2 * f.signWeight) (h1 : rungOf f a = 0) : f.sqrt a = some a := by
  have hpos : 0 < f.infRung := Nat.lt_of_lt_of_le (binade_pos f) (inf_ge f he)
  have ma : magOf f (rungOf f a) = 0 := (mag_zero f).2 h1
  have hz : ∀ p, rung f 0 p = 0 := fun p => by unfold rung; rw [if_pos rfl]
  unfold Format.sqrt
  rw [read_number f he (by omega), ma]
  simp only [Datum.root, if_true, Option.map_some, write_number, hz]
  have := word_self f hw
  rw [h1] at this
  rw [this]
theorem isRoot_big {n w d : Nat} (hw : IsRoot n w) (h : 2 ^ (2 * d) ≤ n) : 2 ^ d ≤ w := by
  rcases Nat.lt_or_ge w (2 ^ d) with h' | h'
  · exfalso
    have h2 := Nat.mul_le_mul (show w + 1 ≤ 2 ^ d from h') (show w + 1 ≤ 2 ^ d from h')
    have h3 := hw.2
    rw [← pow_split, show d + d = 2 * d by omega] at h2
    omega
  · exact h'
/-- the same root from more or fewer digits -/
theorem rung_roots_le {m : Nat} (hm : m ≠ 0) {i : Int} {u v r s : Nat} (huv : u ≤ v) (hu : (i - u) % 2 = 0) (hv : (i - v) % 2 = 0) (hbu : 2 * (f.fractionBits + 2) ≤ m.log2 + u) (hr : IsRoot (m * 2 ^ u) r) (hs : IsRoot (m * 2 ^ v) s) :
    rung f (SR (m * 2 ^ v) s) ((i - v) / 2 - 1) = rung f (SR (m * 2 ^ u) r) ((i - u) / 2 - 1) := by
  obtain ⟨t, ht⟩ : ∃ t, v = u + 2 * t := ⟨(v - u) / 2, by omega⟩
  have e : m * 2 ^ v = 4 ^ t * (m * 2 ^ u) := by
    rw [ht, pow_split, Nat.pow_mul, show (2 : Nat) ^ 2 = 4 by decide, ← Nat.mul_assoc, Nat.mul_comm]
  rw [e] at hs ⊢
  have hbig : 2 ^ (f.fractionBits + 2) ≤ 2 * r := by
    have h1 : 2 ^ (2 * (f.fractionBits + 2)) ≤ m * 2 ^ u := by
      have h2 : 2 ^ (2 * (f.fractionBits + 2)) ≤ 2 ^ (m.log2 + u) := Nat.pow_le_pow_right (by decide) hbu
      rw [pow_split] at h2
      exact Nat.le_trans h2 (Nat.mul_le_mul_right _ (log2_bounds hm).1)
    have := isRoot_big hr h1
    omega
  rw [rung_SR f hr hbig _ t s hs]
  congr 1
  omega
theorem rung_roots {m : Nat} (hm : m ≠ 0) {i : Int} {u v r s : Nat} (hu : (i - u) % 2 = 0) (hv : (i - v) % 2 = 0) (hbu : 2 * (f.fractionBits + 2) ≤ m.log2 + u) (hbv : 2 * (f.fractionBits + 2) ≤ m.log2 + v) (hr : IsRoot (m * 2 ^ u) r) (hs : IsRoot (m * 2 ^ v) s) :
    rung f (SR (m * 2 ^ v) s) ((i - v) / 2 - 1) = rung f (SR (m * 2 ^ u) r) ((i - u) / 2 - 1) := by
  rcases Nat.le_total u v with h | h
  · exact rung_roots_le f hm h hu hv hbu hr hs
  · exact (rung_roots_le f hm h hv hu hbv hs hr).symm
theorem rung_rhalf (n r : Nat) (e : Int) : rung f (SR n r) (e - 1) = if r * r = n then rung f r e else rung f (2 * r + 1) (e - 1) := by
  unfold SR
  by_cases h : r * r = n
  · rw [if_neg (fun h' => h' h), if_pos h, Nat.add_zero, Nat.mul_comm]
    have := rung_scale f r e 1
    rw [Nat.pow_one] at this
    exact this
  · rw [if_pos h, if_neg h]
theorem moreR_even (m : Nat) (i : Int) : (i - moreR f m i) % 2 = 0 := by unfold moreR; omega
theorem moreR_big (m : Nat) (i : Int) : 2 * (f.fractionBits + 2) ≤ m.log2 + moreR f m i := by unfold moreR; omega

/-! a root rounded twice -/
/-- an odd number's square is odd: no root lies near a midpoint -/
theorem root_mid {n w dd t z : Nat} (hw : IsRoot n w) (hdd : 3 ≤ dd) (hodd : t % 2 = 1) (ht : t < 2 ^ 25) (hz : 4 * n = 2 ^ 57 * z * (2 ^ dd * 2 ^ dd))
    (h1 : SR n w ≤ t * 2 ^ 28 * 2 ^ dd + 2 ^ (dd - 1)) (h2 : t * 2 ^ 28 * 2 ^ dd ≤ SR n w + 2 ^ (dd - 1)) : False := by
  have hE : 2 ^ dd = 2 * 2 ^ (dd - 1) := by rw [show dd = (dd - 1) + 1 by omega, Nat.pow_succ]; simp; omega
  have hE4 : 4 ≤ 2 ^ (dd - 1) := Nat.le_trans (show 4 ≤ 2 ^ 2 by decide) (Nat.pow_le_pow_right (by decide) (by omega))
  have hS1 : SR n w ≤ 2 * w + 1 := by unfold SR; split <;> omega
  have hS2 : 2 * w ≤ SR n w := by unfold SR; omega
  have hpos : 1 ≤ t := by omega
  generalize hEE : 2 ^ dd = E at *
  generalize hH : 2 ^ (dd - 1) = H at *
  have a1 : (t * 2 ^ 28 - 1) * E ≤ 2 * w := by
    rw [Nat.sub_mul, Nat.one_mul]
    omega
  have a2 : 2 * w + 2 ≤ (t * 2 ^ 28 + 1) * E := by
    rw [Nat.add_mul, Nat.one_mul]
    omega
  have b1 := Nat.mul_le_mul a1 a1
  have b2 := Nat.mul_le_mul a2 a2
  have c1 : 2 * w * (2 * w) ≤ 4 * n := by
    have := hw.1
    have e : 2 * w * (2 * w) = 4 * (w * w) := by rw [Nat.mul_mul_mul_comm]
    omega
  have c2 : 4 * n < (2 * w + 2) * (2 * w + 2) := by
    have := hw.2
    have e : (2 * w + 2) * (2 * w + 2) = 4 * ((w + 1) * (w + 1)) := by
      rw [show 2 * w + 2 = 2 * (w + 1) by omega, Nat.mul_mul_mul_comm]
    omega
  have hEp : 0 < E * E := Nat.mul_pos (by omega) (by omega)
  rw [Nat.mul_mul_mul_comm] at b1 b2
  have d1 : (t * 2 ^ 28 - 1) * (t * 2 ^ 28 - 1) ≤ 2 ^ 57 * z := by
    refine Nat.le_of_mul_le_mul_right ?_ hEp
    omega
  have d2 : 2 ^ 57 * z < (t * 2 ^ 28 + 1) * (t * 2 ^ 28 + 1) := by
    refine Nat.lt_of_mul_lt_mul_right (a := E * E) ?_
    omega
  have hsq : t * t % 2 = 1 := by rw [Nat.mul_mod, hodd]
  have e1 : (t * 2 ^ 28 + 1) * (t * 2 ^ 28 + 1) = t * t * 2 ^ 56 + t * 2 ^ 29 + 1 := by
    have : t * 2 ^ 28 * (t * 2 ^ 28) = t * t * 2 ^ 56 := by rw [Nat.mul_mul_mul_comm, ← pow_split]
    rw [Nat.add_mul, Nat.mul_add, this]
    omega
  have e2 : (t * 2 ^ 28 - 1) * (t * 2 ^ 28 - 1) + t * 2 ^ 29 = t * t * 2 ^ 56 + 1 := by
    obtain ⟨x, hx⟩ : ∃ x, t * 2 ^ 28 = x + 1 := ⟨t * 2 ^ 28 - 1, by omega⟩
    have h3 : t * 2 ^ 28 * (t * 2 ^ 28) = t * t * 2 ^ 56 := by rw [Nat.mul_mul_mul_comm, ← pow_split]
    rw [hx] at h3 ⊢
    rw [← h3, Nat.add_mul, Nat.mul_add, Nat.add_sub_cancel]
    omega
  generalize t * t = q at *
  generalize (t * 2 ^ 28 - 1) * (t * 2 ^ 28 - 1) = l at *
  omega

end Fx
end Go.Proofs.YtfdggebddcoeeaaGreatDoor

/-
  Rounding twice: first to 64 bits, then to 32: roots, whole numbers.
-/
set_option maxRecDepth 10000
namespace Go.Proofs.YtfdggebddcoeeaaGreatDoor
namespace Fx
open Ieee

theorem rnd_rnd (N d1 d2 : Nat) (h2 : 1 ≤ d2) (hmid : rnd N d1 % 2 ^ d2 ≠ 2 ^ (d2 - 1)) : rnd (rnd N d1) d2 = rnd N (d1 + d2) := by
  have hP := Nat.two_pow_pos d1
  have hQ2 : 2 ^ d2 = 2 * 2 ^ (d2 - 1) := by rw [show d2 = (d2 - 1) + 1 by omega, Nat.pow_succ]; simp; omega
  have hH := Nat.two_pow_pos (d2 - 1)
  have hR := Nat.mod_lt N hP
  have hS := Nat.mod_lt (N / 2 ^ d1) (Nat.two_pow_pos d2)
  have hA := Nat.div_add_mod (N / 2 ^ d1) (2 ^ d2)
  have e1 := mod_pow_add N d1 d2
  have e2 := div_pow_add N d1 d2
  have eP := pow_split d1 d2
  have hc : ∃ c, rnd N d1 = N / 2 ^ d1 + c ∧ c ≤ 1 ∧ (c = 1 → 0 < N % 2 ^ d1) := by
    unfold rnd
    by_cases h : 2 ^ d1 < 2 * (N % 2 ^ d1) ∨ 2 ^ d1 = 2 * (N % 2 ^ d1) ∧ N / 2 ^ d1 % 2 = 1
    · exact ⟨1, by rw [if_pos h], Nat.le_refl _, fun _ => by omega⟩
    · exact ⟨0, by rw [if_neg h], by omega, fun h => by omega⟩
  obtain ⟨c, hK, hc1, hcR⟩ := hc
  rw [hK] at hmid ⊢
  unfold rnd
  rw [e1, e2, eP]
  generalize hAA : N / 2 ^ d1 = A at *
  generalize hRR : N % 2 ^ d1 = R at *
  generalize hBB : A / 2 ^ d2 = B at *
  generalize hSS : A % 2 ^ d2 = S at *
  generalize hHH : 2 ^ (d2 - 1) = H at *
  rw [hQ2] at hmid hS hA ⊢
  generalize hPP : 2 ^ d1 = P at *
  have hSP : ∀ x y : Nat, x ≤ y → x * P ≤ y * P := fun x y h => Nat.mul_le_mul_right _ h
  have hmul : P * (2 * H) = 2 * (H * P) := by rw [Nat.mul_comm P, Nat.mul_assoc]
  rw [hmul]
  by_cases hover : S + c = 2 * H
  · have hAc : A + c = 2 * H * (B + 1) := by rw [Nat.mul_add]; omega
    have q1 : (A + c) / (2 * H) = B + 1 := by rw [hAc]; exact Nat.mul_div_cancel_left _ (by omega)
    have q2 : (A + c) % (2 * H) = 0 := by rw [hAc]; exact Nat.mul_mod_right ..
    rw [q1, q2]
    have hc' : c = 1 := by omega
    have hRp := hcR hc'
    have := hSP H S (by omega)
    rw [if_neg (by omega), if_pos (by left; omega)]
  · have hAc : A + c = 2 * H * B + (S + c) := by omega
    have q1 : (A + c) / (2 * H) = B := by rw [hAc, Nat.mul_add_div (by omega), Nat.div_eq_of_lt (by omega), Nat.add_zero]
    have q2 : (A + c) % (2 * H) = S + c := by rw [hAc, Nat.mul_add_mod, Nat.mod_eq_of_lt (by omega)]
    rw [q2] at hmid
    rw [q1, q2]
    congr 1
    by_cases hb : 2 * H < 2 * (S + c)
    · rw [if_pos (by omega), if_pos]
      left
      rcases Nat.lt_or_ge H S with h | h
      · have := hSP (H + 1) S (by omega)
        rw [Nat.add_mul, Nat.one_mul] at this
        omega
      · have hc' : c = 1 := by omega
        have hS' : S = H := by omega
        have hRp := hcR hc'
        rw [hS']
        omega
    · rw [if_neg (by omega), if_neg]
      have := hSP (S + 1) H (by omega)
      rw [Nat.add_mul, Nat.one_mul] at this
      omega
theorem rnd_near (S : Nat) {d : Nat} (hd : 1 ≤ d) : S ≤ rnd S d * 2 ^ d + 2 ^ (d - 1) ∧ rnd S d * 2 ^ d ≤ S + 2 ^ (d - 1) := by
  have hdm := Nat.div_add_mod S (2 ^ d)
  have hm := Nat.mod_lt S (Nat.two_pow_pos d)
  have hH : 2 ^ d = 2 * 2 ^ (d - 1) := by rw [show d = (d - 1) + 1 by omega, Nat.pow_succ]; simp; omega
  unfold rnd
  generalize S / 2 ^ d = A at *
  generalize S % 2 ^ d = R at *
  generalize 2 ^ (d - 1) = H at *
  rw [hH] at hdm hm ⊢
  rw [Nat.mul_comm (2 * H)] at hdm
  split
  · rw [Nat.add_mul, Nat.one_mul]
    omega
  · rw [Nat.add_zero]
    omega
section
variable (f g : Format)
/-- a rung's size at another format: by its units -/
theorem rung_units (r : Nat) : rung f (magOf g r) (placeOf g r) = rung f (units g r) g.leastPlace := by
  have h := place_ge g r
  rw [units_eq]
  have := rung_scale f (magOf g r) (placeOf g r) (placeOf g r - g.leastPlace).toNat
  rw [← this]
  congr 1
  omega
theorem units_at {L K : Nat} (h1 : g.binade ≤ K) (h2 : K ≤ 2 * g.binade) : units g (L * g.binade + K) = K * 2 ^ L := by
  have hBp := binade_pos g
  unfold units
  have hge2 : g.binade ≤ L * g.binade + K := by omega
  rw [if_neg (by omega)]
  rcases Nat.lt_or_eq_of_le h2 with h | h
  · have e6 : L * g.binade + K = g.binade * (L + 1) + (K - g.binade) := by
      rw [Nat.mul_add, Nat.mul_comm g.binade L]; omega
    rw [e6, Nat.mul_add_mod, Nat.mod_eq_of_lt (by omega), Nat.mul_add_div hBp, Nat.div_eq_of_lt (by omega)]
    rw [show g.binade + (K - g.binade) = K by omega, show L + 1 + 0 - 1 = L by omega]
  · have e6 : L * g.binade + K = g.binade * (L + 2) := by
      rw [Nat.mul_add, Nat.mul_comm g.binade L]; omega
    rw [e6, Nat.mul_mod_right, Nat.mul_div_cancel_left _ hBp, show L + 2 - 1 = L + 1 by omega, Nat.pow_succ, h, Nat.add_zero, Nat.mul_comm (2 ^ L), ← Nat.mul_assoc, Nat.mul_comm g.binade 2]
/-- rounded to one format, then to a smaller one -/
theorem rung_twice {N : Nat} {p : Int} (hN : N ≠ 0) (hfg : f.fractionBits < g.fractionBits) (hlog : g.fractionBits ≤ N.log2) (hg : g.leastPlace ≤ p + N.log2 - g.fractionBits) (hf : f.leastPlace ≤ p + N.log2 - f.fractionBits) (ho : rung g N p < g.infRung)
    (hmid : rnd N (N.log2 - g.fractionBits) % 2 ^ (g.fractionBits - f.fractionBits) ≠ 2 ^ (g.fractionBits - f.fractionBits - 1)) :
    rung f (magOf g (rung g N p)) (placeOf g (rung g N p)) = rung f N p := by
  have hb := log2_bounds hN
  have hlg : lastP g N p = p + N.log2 - g.fractionBits := by unfold lastP; omega
  have hlf : lastP f N p = p + N.log2 - f.fractionBits := by unfold lastP; omega
  have hdg : (lastP g N p - p).toNat = N.log2 - g.fractionBits := by omega
  have e0 : (p - lastP g N p).toNat = 0 := by omega
  have hrg : rung g N p = (lastP g N p - g.leastPlace).toNat * g.binade + rnd N (N.log2 - g.fractionBits) := by
    unfold rung at ho ⊢
    rw [if_neg hN, e0, Nat.pow_zero, Nat.mul_one, hdg] at ho ⊢
    omega
  generalize hK : rnd N (N.log2 - g.fractionBits) = K at *
  have hK1 : g.binade ≤ K := by
    have h1 : 2 ^ g.fractionBits ≤ N / 2 ^ (N.log2 - g.fractionBits) := by
      refine (Nat.le_div_iff_mul_le (Nat.two_pow_pos _)).2 ?_
      rw [← pow_split, show g.fractionBits + (N.log2 - g.fractionBits) = N.log2 by omega]
      exact hb.1
    rw [← hK]
    unfold rnd Format.binade
    omega
  have hK2 : K ≤ 2 * g.binade := by
    have h1 : N / 2 ^ (N.log2 - g.fractionBits) < 2 ^ (g.fractionBits + 1) := by
      refine (Nat.div_lt_iff_lt_mul (Nat.two_pow_pos _)).2 ?_
      rw [← pow_split, show g.fractionBits + 1 + (N.log2 - g.fractionBits) = N.log2 + 1 by omega]
      exact hb.2
    rw [Nat.pow_succ] at h1
    rw [← hK]
    unfold rnd Format.binade
    split <;> omega
  have hL : ((lastP g N p - g.leastPlace).toNat : Int) = lastP g N p - g.leastPlace := by omega
  rw [rung_units, hrg, units_at g hK1 hK2]
  have hsc := rung_scale f K (lastP g N p) (lastP g N p - g.leastPlace).toNat
  rw [show lastP g N p - ((lastP g N p - g.leastPlace).toNat : Int) = g.leastPlace by omega] at hsc
  rw [hsc]
  have hK0 : K ≠ 0 := by have := binade_pos g; omega
  have hfd : (lastP f N p - p).toNat = N.log2 - g.fractionBits + (g.fractionBits - f.fractionBits) := by omega
  have e1 : (p - lastP f N p).toNat = 0 := by omega
  have hrr := rnd_rnd N (N.log2 - g.fractionBits) (g.fractionBits - f.fractionBits) (by omega) (by rw [hK]; exact hmid)
  rw [hK] at hrr
  unfold rung
  rw [if_neg hK0, if_neg hN, e1, hfd, Nat.pow_zero, Nat.mul_one, ← hrr]
  have hgb : g.binade = 2 ^ g.fractionBits := rfl
  rcases Nat.lt_or_eq_of_le hK2 with h | h
  · have hlogK : K.log2 = g.fractionBits := (Nat.log2_eq_iff hK0).2 ⟨by omega, by rw [Nat.pow_succ]; omega⟩
    have hlK : lastP f K (lastP g N p) = lastP f N p := by
      have : lastP f K (lastP g N p) = max (lastP g N p + K.log2 - f.fractionBits) f.leastPlace := rfl
      rw [this, hlogK]
      omega
    rw [hlK]
    have e2 : (lastP g N p - lastP f N p).toNat = 0 := by omega
    have e3 : (lastP f N p - lastP g N p).toNat = g.fractionBits - f.fractionBits := by omega
    rw [e2, e3, Nat.pow_zero, Nat.mul_one]
  · have hlogK : K.log2 = g.fractionBits + 1 := (Nat.log2_eq_iff hK0).2 ⟨by rw [Nat.pow_succ]; omega, by rw [Nat.pow_succ, Nat.pow_succ]; omega⟩
    have hlK : lastP f K (lastP g N p) = lastP f N p + 1 := by
      have : lastP f K (lastP g N p) = max (lastP g N p + K.log2 - f.fractionBits) f.leastPlace := rfl
      rw [this, hlogK]
      push_cast
      omega
    rw [hlK]
    have e2 : (lastP g N p - (lastP f N p + 1)).toNat = 0 := by omega
    have e3 : (lastP f N p + 1 - lastP g N p).toNat = g.fractionBits - f.fractionBits + 1 := by omega
    have hKp : K = f.binade * 2 ^ (g.fractionBits - f.fractionBits + 1) := by
      rw [h, hgb]
      show 2 * 2 ^ g.fractionBits = 2 ^ f.fractionBits * _
      rw [← pow_split, show f.fractionBits + (g.fractionBits - f.fractionBits + 1) = g.fractionBits + 1 by omega, Nat.pow_succ]
      omega
    have hKp2 : K = 2 * f.binade * 2 ^ (g.fractionBits - f.fractionBits) := by
      rw [hKp, Nat.pow_succ, ← Nat.mul_assoc, Nat.mul_comm _ 2, ← Nat.mul_assoc]
    have r1 : rnd K (g.fractionBits - f.fractionBits + 1) = f.binade := by
      rw [hKp]
      have := rnd_scale f.binade 0 (g.fractionBits - f.fractionBits + 1)
      rw [Nat.add_zero, rnd_zero] at this
      exact this
    have r2 : rnd K (g.fractionBits - f.fractionBits) = 2 * f.binade := by
      rw [hKp2]
      have := rnd_scale (2 * f.binade) 0 (g.fractionBits - f.fractionBits)
      rw [Nat.add_zero, rnd_zero] at this
      exact this
    have e4 : (lastP f N p + 1 - f.leastPlace).toNat = (lastP f N p - f.leastPlace).toNat + 1 := by omega
    rw [e2, e3, Nat.pow_zero, Nat.mul_one, r1, r2, e4, Nat.add_mul]
    omega
theorem rung_lt_inf {n : Nat} {p : Int} (h : (lastP f n p - f.leastPlace).toNat + 4 ≤ 2 ^ f.exponentBits) : rung f n p < f.infRung := by
  have hB := binade_pos f
  have h4 : f.infRung = (2 ^ f.exponentBits - 1) * f.binade := rfl
  by_cases h0 : n = 0
  · unfold rung
    rw [if_pos h0, h4]
    exact Nat.mul_pos (by omega) hB
  have hk := kept_le f h0 p
  rw [rung_kept f h0]
  have hb : 2 ^ (f.fractionBits + 1) = 2 * f.binade := by rw [Nat.pow_succ, Nat.mul_comm]; rfl
  obtain ⟨x, hx⟩ : ∃ x, 2 ^ f.exponentBits = x + 1 := ⟨2 ^ f.exponentBits - 1, by omega⟩
  rw [hx] at h h4
  have h3 : ((lastP f n p - f.leastPlace).toNat + 4) * f.binade ≤ (x + 1) * f.binade := Nat.mul_le_mul_right _ h
  rw [Nat.add_mul, Nat.add_mul, Nat.one_mul] at h3
  rw [hb] at hk
  rw [Nat.add_sub_cancel] at h4
  have hbb : f.binade = 2 ^ f.fractionBits := rfl
  refine Nat.lt_of_le_of_lt (Nat.min_le_left _ _) ?_
  omega
/-- an exact one -/
theorem rung_exact {N : Nat} {p : Int} (hn : N < 2 ^ (g.fractionBits + 1)) (hp : g.leastPlace ≤ p) (ho : rung g N p < g.infRung) : rung f (magOf g (rung g N p)) (placeOf g (rung g N p)) = rung f N p := by
  rw [rung_units, units_rung g hn hp ho]
  have := rung_scale f N p (p - g.leastPlace).toNat
  rw [← this]
  congr 1
  omega
end
/-- a root's last digits are no midpoint's -/
theorem root_twice {m : Nat} {i : Int} {u w : Nat} (hm : m ≠ 0) (hm24 : m < 2 ^ 24) (hi : -149 ≤ i ∧ i ≤ 104) (hu : (i - u) % 2 = 0) (hbu : 2 * (double.fractionBits + 2) ≤ m.log2 + u) (hw : IsRoot (m * 2 ^ u) w) (p : Int) (hp : p = (i - u) / 2 - 1) :
    rung single (magOf double (rung double (SR (m * 2 ^ u) w) p)) (placeOf double (rung double (SR (m * 2 ^ u) w) p)) = rung single (SR (m * 2 ^ u) w) p ∧ rung double (SR (m * 2 ^ u) w) p < double.infRung ∧ rung single (SR (m * 2 ^ u) w) p < single.infRung := by
  have hbm := log2_bounds hm
  have hl24 : m.log2 < 24 := (Nat.log2_lt hm).2 hm24
  have d52 : double.fractionBits = 52 := rfl
  have s23 : single.fractionBits = 23 := rfl
  have dl : double.leastPlace = -1074 := by decide
  have sl : single.leastPlace = -149 := by decide
  rw [d52] at hbu
  have hn0 : m * 2 ^ u ≠ 0 := by have := Nat.mul_pos (Nat.pos_of_ne_zero hm) (Nat.two_pow_pos u); omega
  have hnl : (m * 2 ^ u).log2 = m.log2 + u := log2_scale hm u
  have hbn := log2_bounds hn0
  rw [hnl] at hbn
  have hw54 : 2 ^ 54 ≤ w := isRoot_big hw (Nat.le_trans (Nat.pow_le_pow_right (by decide) (by omega)) hbn.1)
  have hw0 : w ≠ 0 := by omega
  have hbw := log2_bounds hw0
  have hlw : 54 ≤ w.log2 := (Nat.le_log2 hw0).2 hw54
  -- the root's length is half the number's
  have hlw2 : 2 * w.log2 ≤ m.log2 + u := by
    have h1 := Nat.mul_le_mul hbw.1 hbw.1
    rw [← pow_split] at h1
    have h2 : 2 ^ (w.log2 + w.log2) < 2 ^ (m.log2 + u + 1) := Nat.lt_of_le_of_lt h1 (Nat.lt_of_le_of_lt hw.1 hbn.2)
    have := (Nat.pow_lt_pow_iff_right (a := 2) (by decide)).1 h2
    omega
  have hlw3 : m.log2 + u ≤ 2 * w.log2 + 1 := by
    have h1 := Nat.mul_le_mul (show w + 1 ≤ 2 ^ (w.log2 + 1) from hbw.2) (show w + 1 ≤ 2 ^ (w.log2 + 1) from hbw.2)
    rw [← pow_split] at h1
    have h2 : 2 ^ (m.log2 + u) < 2 ^ (w.log2 + 1 + (w.log2 + 1)) := Nat.lt_of_le_of_lt hbn.1 (Nat.lt_of_lt_of_le hw.2 h1)
    have := (Nat.pow_lt_pow_iff_right (a := 2) (by decide)).1 h2
    omega
  have hS0 : SR (m * 2 ^ u) w ≠ 0 := by unfold SR; omega
  have hSl : (SR (m * 2 ^ u) w).log2 = w.log2 + 1 := by
    refine (Nat.log2_eq_iff hS0).2 ⟨?_, ?_⟩
    · rw [Nat.pow_succ]; unfold SR; omega
    · rw [Nat.pow_succ, Nat.pow_succ]
      have := hbw.2
      rw [Nat.pow_succ] at this
      unfold SR
      split <;> omega
  have small : ∀ f : Format, f.leastPlace ≤ p + (w.log2 + 1 : Nat) - f.fractionBits → (p + (w.log2 + 1 : Nat) - f.fractionBits - f.leastPlace).toNat + 4 ≤ 2 ^ f.exponentBits → rung f (SR (m * 2 ^ u) w) p < f.infRung := by
    intro f h1 h2
    refine rung_lt_inf f ?_
    have hl : lastP f (SR (m * 2 ^ u) w) p = p + (w.log2 + 1 : Nat) - f.fractionBits := by unfold lastP; rw [hSl]; omega
    rw [hl]
    exact h2
  have hpb : -76 ≤ p + (w.log2 + 1 : Nat) ∧ p + (w.log2 + 1 : Nat) ≤ 66 := by
    push_cast
    omega
  have ho := small double (by rw [dl, d52]; omega) (by rw [dl, d52]; have : (2 : Nat) ^ double.exponentBits = 2048 := by decide
                                                       omega)
  have ho2 := small single (by rw [sl, s23]; omega) (by rw [sl, s23]; have : (2 : Nat) ^ single.exponentBits = 256 := by decide
                                                        omega)
  refine ⟨?_, ho, ho2⟩
  refine rung_twice single double hS0 (by decide) (by rw [hSl, d52]; omega) (by rw [hSl, dl, d52]; omega) (by rw [hSl, sl, s23]; omega) ho ?_
  rw [hSl, d52, s23]
  intro hmid
  obtain ⟨dd, hdd⟩ : ∃ dd, dd = w.log2 + 1 - 52 := ⟨_, rfl⟩
  rw [← hdd] at hmid
  generalize hK : rnd (SR (m * 2 ^ u) w) dd = K at hmid
  have hKm : K % 2 ^ 29 = 2 ^ 28 := hmid
  have hdm := Nat.div_add_mod K (2 ^ 29)
  obtain ⟨t, ht⟩ : ∃ t, t = 2 * (K / 2 ^ 29) + 1 := ⟨_, rfl⟩
  have hKt : K = t * 2 ^ 28 := by omega
  have hH : 2 ^ dd = 2 * 2 ^ (dd - 1) := by rw [show dd = (dd - 1) + 1 by omega, Nat.pow_succ]; simp; omega
  have hKS : SR (m * 2 ^ u) w ≤ K * 2 ^ dd + 2 ^ (dd - 1) ∧ K * 2 ^ dd ≤ SR (m * 2 ^ u) w + 2 ^ (dd - 1) := by
    rw [← hK]
    exact rnd_near _ (by omega)
  rw [hKt] at hKS
  have hK53 : K ≤ 2 ^ 53 := by
    have h1 : SR (m * 2 ^ u) w / 2 ^ dd < 2 ^ 53 := by
      refine (Nat.div_lt_iff_lt_mul (Nat.two_pow_pos _)).2 ?_
      rw [← pow_split, show 53 + dd = w.log2 + 1 + 1 by omega]
      have := (log2_bounds hS0).2
      rw [hSl] at this
      exact this
    rw [← hK]
    unfold rnd
    split <;> omega
  obtain ⟨z, hz⟩ : ∃ z, u + 2 = z + (57 + (dd + dd)) := ⟨u + 2 - (57 + (dd + dd)), by omega⟩
  refine root_mid (z := m * 2 ^ z) hw (by omega) (by omega) (show t < 2 ^ 25 by omega) ?_ hKS.1 hKS.2
  have e4 : 4 * (m * 2 ^ u) = m * 2 ^ (u + 2) := by rw [pow_split, ← Nat.mul_assoc m, Nat.mul_comm 4]
  rw [e4, hz, pow_split, pow_split, pow_split]
  rw [Nat.mul_left_comm (2 ^ 57) m, Nat.mul_assoc m, Nat.mul_comm (2 ^ z), Nat.mul_assoc (2 ^ 57), Nat.mul_comm (2 ^ dd * 2 ^ dd), ← Nat.mul_assoc (2 ^ 57)]

end Fx
end Go.Proofs.YtfdggebddcoeeaaGreatDoor

/-
  Whole numbers near a float, and roots, of 32 bits: by 64 bits they come to the same.
-/
set_option maxRecDepth 10000
namespace Go.Proofs.YtfdggebddcoeeaaGreatDoor
namespace Fx
open Ieee

/-- what is added to what is kept -/
def upN (way : Toward) (s : Bool) (n d : Nat) : Nat := match way with
  | .even => if 2 ^ d < 2 * (n % 2 ^ d) ∨ (2 ^ d = 2 * (n % 2 ^ d) ∧ n / 2 ^ d % 2 = 1) then 1 else 0
  | .down => if s = true ∧ n % 2 ^ d ≠ 0 then 1 else 0
  | .up => if s = false ∧ n % 2 ^ d ≠ 0 then 1 else 0
  | .zero => 0
def cutN (way : Toward) (s : Bool) (n d : Nat) : Nat := n / 2 ^ d + upN way s n d
theorem cutN_small (way : Toward) (s : Bool) {n d e : Nat} (hd : n.log2 + 2 ≤ d) (he : n.log2 + 2 ≤ e) : cutN way s n d = cutN way s n e := by
  have hn : n < 2 ^ (n.log2 + 1) := Nat.lt_log2_self
  have h2 : 2 ^ (n.log2 + 2) = 2 * 2 ^ (n.log2 + 1) := by rw [Nat.pow_succ]; omega
  have key : ∀ k, n.log2 + 2 ≤ k → n / 2 ^ k = 0 ∧ n % 2 ^ k = n ∧ 2 * n < 2 ^ k := by
    intro k hk
    have h1 : 2 ^ (n.log2 + 2) ≤ 2 ^ k := Nat.pow_le_pow_right (by decide) hk
    exact ⟨Nat.div_eq_of_lt (by omega), Nat.mod_eq_of_lt (by omega), by omega⟩
  obtain ⟨a1, a2, a3⟩ := key d hd
  obtain ⟨b1, b2, b3⟩ := key e he
  unfold cutN upN
  rw [a1, a2, b1, b2]
  cases way <;> simp only
  rw [if_neg (by omega), if_neg (by omega)]
theorem cut_eq (way : Toward) (s : Bool) (n d : Nat) : way.cut s n d = cutN way s n d := by
  by_cases hw : way = .even
  · subst hw
    rw [cut_even]
    rfl
  have key : ∀ d', d' = min d (n.log2 + 2) → way.cut s n d = cutN way s n d' := by
    intro d' hd'
    unfold Toward.cut cutN upN
    rw [← hd', Nat.one_shiftLeft]
    cases way
    · exact absurd rfl hw
    · by_cases h : n % 2 ^ d' = 0 <;> cases s <;> simp [h]
    · by_cases h : n % 2 ^ d' = 0 <;> cases s <;> simp [h]
    · simp
  rw [key _ rfl]
  by_cases hd : d ≤ n.log2 + 2
  · rw [Nat.min_eq_left hd]
  · rw [Nat.min_eq_right (by omega)]
    exact cutN_small way s (Nat.le_refl _) (by omega)
theorem cutN_zero (way : Toward) (s : Bool) (n : Nat) : cutN way s n 0 = n := by
  unfold cutN upN
  cases way <;> simp [Nat.mod_one]
theorem cutN_scale (way : Toward) (s : Bool) (n d k : Nat) : cutN way s (n * 2 ^ k) (k + d) = cutN way s n d := by
  have hp := Nat.two_pow_pos k
  have e1 : n * 2 ^ k / 2 ^ k = n := Nat.mul_div_cancel _ hp
  have e2 : n * 2 ^ k % 2 ^ k = 0 := Nat.mul_mod_left ..
  have h1 : (n % 2 ^ d * 2 ^ k ≠ 0) ↔ n % 2 ^ d ≠ 0 := by
    constructor
    · intro h h0; rw [h0, Nat.zero_mul] at h; exact h rfl
    · intro h h0; rcases Nat.mul_eq_zero.1 h0 with h' | h' <;> omega
  cases hw : way
  · exact rnd_scale n d k
  · unfold cutN upN
    simp only
    rw [mod_pow_add, div_pow_add, e1, e2, Nat.add_zero]
    simp only [h1]
  · unfold cutN upN
    simp only
    rw [mod_pow_add, div_pow_add, e1, e2, Nat.add_zero]
    simp only [h1]
  · unfold cutN upN
    simp only
    rw [div_pow_add, e1]
/-- a number made whole -/
def wholeN (way : Toward) (s : Bool) (m : Nat) (i : Int) : Nat := cutN way s (m * 2 ^ i.toNat) (-i).toNat
theorem wholeN_scale (way : Toward) (s : Bool) (m : Nat) (i : Int) (k : Nat) : wholeN way s (m * 2 ^ k) (i - k) = wholeN way s m i := by
  unfold wholeN
  by_cases h0 : i ≤ 0
  · have e1 : (i - k).toNat = 0 := by omega
    have e2 : i.toNat = 0 := by omega
    have e3 : (-(i - k)).toNat = k + (-i).toNat := by omega
    rw [e1, e2, e3, Nat.pow_zero, Nat.mul_one, Nat.mul_one, cutN_scale]
  · by_cases hk : (k : Int) ≤ i
    · have e1 : (-(i - k)).toNat = 0 := by omega
      have e2 : (-i).toNat = 0 := by omega
      rw [e1, e2, cutN_zero, cutN_zero, Nat.mul_assoc, ← pow_split]
      congr 2
      omega
    · have e1 : (i - k).toNat = 0 := by omega
      have e2 : (-i).toNat = 0 := by omega
      have e3 : (-(i - k)).toNat = k - i.toNat := by omega
      have e4 : m * 2 ^ k = m * 2 ^ i.toNat * 2 ^ (k - i.toNat) := by rw [Nat.mul_assoc, ← pow_split]; congr 2; omega
      rw [e1, e2, e3, Nat.pow_zero, Nat.mul_one, cutN_zero, e4]
      have := cutN_scale way s (m * 2 ^ i.toNat) 0 (k - i.toNat)
      rw [Nat.add_zero, cutN_zero] at this
      exact this
theorem integral_num (way : Toward) (s : Bool) (m : Nat) (i : Int) : (Datum.number s m i).integral way = .number s (wholeN way s m i) 0 := by
  simp only [Datum.integral, Nat.shiftLeft_eq, cut_eq]
  rfl
theorem wholeN_pos (way : Toward) (s : Bool) (m : Nat) {i : Int} (h : 0 ≤ i) : wholeN way s m i = m * 2 ^ i.toNat := by
  unfold wholeN
  have e : (-i).toNat = 0 := by omega
  rw [e, cutN_zero]
theorem wholeN_le (way : Toward) (s : Bool) (m : Nat) {i : Int} (h : i < 0) : wholeN way s m i ≤ m / 2 + 1 := by
  unfold wholeN cutN
  have e : i.toNat = 0 := by omega
  have h1 : upN way s (m * 2 ^ i.toNat) (-i).toNat ≤ 1 := by
    unfold upN
    cases way <;> simp only <;> (try split) <;> omega
  have h2 : m * 2 ^ i.toNat / 2 ^ (-i).toNat ≤ m / 2 := by
    rw [e, Nat.pow_zero, Nat.mul_one]
    obtain ⟨d, hd⟩ : ∃ d, (-i).toNat = d + 1 := ⟨(-i).toNat - 1, by omega⟩
    rw [hd, Nat.pow_succ, Nat.mul_comm, ← Nat.div_div_eq_div_mul]
    exact Nat.div_le_self _ _
  omega
/-- whole numbers, by one format: as the program does it -/
def wholeW (f : Format) (way : Toward) (a : Nat) : Nat := f.write ((f.read a).integral way)
theorem wholeW_num (f : Format) (he : 2 ≤ f.exponentBits) (way : Toward) {a : Nat} (ha : rungOf f a < f.infRung) : wholeW f way a = f.word (negOf f a) (rung f (wholeN way (negOf f a) (magOf f (rungOf f a)) (placeOf f (rungOf f a))) 0) := by
  unfold wholeW
  rw [read_number f he ha, integral_num, write_number]
theorem wholeW_same (f : Format) (he : 2 ≤ f.exponentBits) (way : Toward) {a : Nat} (hw : a < 2 * f.signWeight) (ha : rungOf f a ≤ f.infRung) (h : rungOf f a = f.infRung ∨ 0 ≤ placeOf f (rungOf f a) ∨ rungOf f a = 0) : wholeW f way a = a := by
  have hself := word_self f hw
  rcases Nat.lt_or_eq_of_le ha with h1 | h1
  · rw [wholeW_num f he way h1]
    rcases h with h | h | h
    · omega
    · rw [wholeN_pos _ _ _ h]
      have := rung_scale f (magOf f (rungOf f a)) (placeOf f (rungOf f a)) (placeOf f (rungOf f a)).toNat
      rw [show placeOf f (rungOf f a) - ((placeOf f (rungOf f a)).toNat : Int) = 0 by omega] at this
      rw [this, rung_self f h1, hself]
    · have hm : magOf f (rungOf f a) = 0 := (mag_zero f).2 h
      have h0 : wholeN way (negOf f a) 0 (placeOf f (rungOf f a)) = 0 := by
        unfold wholeN cutN upN
        rw [Nat.zero_mul]
        cases way <;> simp
      rw [hm, h0]
      have hz : rung f 0 0 = 0 := by unfold rung; rw [if_pos rfl]
      rw [h] at hself
      rw [hz, hself]
  · unfold wholeW
    rw [read_inf f he h1]
    show f.word _ _ = a
    rw [← h1]
    exact hself
/-! a float of 32 bits, as one of 64 -/
theorem widen_num {a : Nat} (ha : rungOf single a < single.infRung) : negOf double (widen a) = negOf single a ∧ rungOf double (widen a) = rung double (magOf single (rungOf single a)) (placeOf single (rungOf single a)) ∧ rungOf double (widen a) < double.infRung ∧
    units double (rungOf double (widen a)) = magOf single (rungOf single a) * 2 ^ (placeOf single (rungOf single a) + 1074).toNat := by
  obtain ⟨b1, b2, b3⟩ := single_bounds ha
  have hsmall := double_rung_small (n := magOf single (rungOf single a)) (p := placeOf single (rungOf single a)) (by omega) (by omega)
  have hw : widen a = double.word (negOf single a) (rung double (magOf single (rungOf single a)) (placeOf single (rungOf single a))) := by
    unfold widen; rw [if_neg (by omega)]
  have hls := Nat.lt_trans hsmall (inf_lt_sign double)
  have hr : rungOf double (widen a) = rung double (magOf single (rungOf single a)) (placeOf single (rungOf single a)) := by rw [hw]; exact word_rung double hls
  refine ⟨by rw [hw]; exact word_neg double hls, hr, by rw [hr]; exact hsmall, ?_⟩
  rw [hr]
  have hl : double.leastPlace = -1074 := by decide
  have h52 : double.fractionBits = 52 := rfl
  rw [units_rung double (by rw [h52]; omega) (by rw [hl]; omega) hsmall, hl]
  congr 2
/-- the one's number, moved up, is the other's -/
theorem widen_parts {a : Nat} (ha : rungOf single a < single.infRung) (h0 : rungOf single a ≠ 0) : ∃ k : Nat, magOf double (rungOf double (widen a)) = magOf single (rungOf single a) * 2 ^ k ∧ placeOf double (rungOf double (widen a)) = placeOf single (rungOf single a) - k := by
  obtain ⟨b1, b2, b3⟩ := single_bounds ha
  obtain ⟨w1, w2, w3, w4⟩ := widen_num ha
  have ma : magOf single (rungOf single a) ≠ 0 := fun h => h0 ((mag_zero single).1 h)
  have hl : double.leastPlace = -1074 := by decide
  have hb52 : double.binade = 2 ^ 52 := by decide
  rw [units_eq, hl] at w4
  have hge := place_ge double (rungOf double (widen a))
  rw [hl] at hge
  generalize magOf single (rungOf single a) = m at *
  generalize placeOf single (rungOf single a) = i at *
  have hmag : 2 ^ 52 ≤ magOf double (rungOf double (widen a)) := by
    by_cases hr : rungOf double (widen a) < double.binade
    · exfalso
      have hp : placeOf double (rungOf double (widen a)) = -1074 := by unfold placeOf; rw [if_pos hr, hl]; rfl
      have hm : magOf double (rungOf double (widen a)) = rungOf double (widen a) := by unfold magOf; rw [if_pos hr]
      rw [hp, hm] at w4
      have h1 : 2 ^ 60 ≤ m * 2 ^ (i + 1074).toNat := by
        have : 2 ^ 60 ≤ 2 ^ (i + 1074).toNat := Nat.pow_le_pow_right (by decide) (by omega)
        exact Nat.le_trans this (Nat.le_mul_of_pos_left _ (Nat.pos_of_ne_zero ma))
      rw [← w4, show (-1074 - -1074 : Int).toNat = 0 by decide, Nat.pow_zero, Nat.mul_one] at h1
      omega
    · unfold magOf
      rw [if_neg hr, hb52]
      omega
  generalize magOf double (rungOf double (widen a)) = m' at *
  generalize placeOf double (rungOf double (widen a)) = j at *
  have hji : j ≤ i := by
    rcases Int.lt_or_le i j with h | h
    · exfalso
      have h1 : 2 ^ (i + 1074).toNat ≤ 2 ^ (j - -1074).toNat := Nat.pow_le_pow_right (by decide) (by omega)
      have h2 : m * 2 ^ (i + 1074).toNat < m' * 2 ^ (j - -1074).toNat := Nat.lt_of_lt_of_le (Nat.mul_lt_mul_of_pos_right (show m < m' by omega) (Nat.two_pow_pos _)) (Nat.mul_le_mul_left _ h1)
      omega
    · exact h
  refine ⟨(i - j).toNat, ?_, by omega⟩
  have e : 2 ^ (i + 1074).toNat = 2 ^ (i - j).toNat * 2 ^ (j - -1074).toNat := by rw [← pow_split]; congr 1; omega
  rw [e, ← Nat.mul_assoc] at w4
  exact Nat.eq_of_mul_eq_mul_right (Nat.two_pow_pos _) w4
theorem widen_inf {a : Nat} (ha : rungOf single a = single.infRung) : negOf double (widen a) = negOf single a ∧ rungOf double (widen a) = double.infRung := by
  have hls := inf_lt_sign double
  unfold widen
  rw [if_pos ha]
  exact ⟨word_neg double hls, word_rung double hls⟩
theorem read_word_num {f : Format} (he : 2 ≤ f.exponentBits) {s : Bool} {r : Nat} (h : r < f.infRung) : f.read (f.word s r) = .number s (magOf f r) (placeOf f r) := by
  have hls := Nat.lt_trans h (inf_lt_sign f)
  have e : rungOf f (f.word s r) = r := word_rung f hls
  rw [read_number f he (by rw [e]; exact h), e, word_neg f hls]
/-- a float of 64 bits as one of 32, where that is one -/
def Narrows (b r : Nat) : Prop := (∃ s m e, double.read b = .number s m e ∧ single.write (.number s m e) = r ∧ (single.read r).isInfinity = false) ∨ (∃ s, double.read b = .infinity s ∧ single.write (.infinity s) = r)
/-- a root of 32 bits, by 64 -/
theorem sqrt_narrows {a : Nat} (ha : rungOf single a < single.infRung) (h0 : rungOf single a ≠ 0) (hs : negOf single a = false) : ∃ b r, double.sqrt (widen a) = some b ∧ single.sqrt a = some r ∧ Narrows b r := by
  have h64 : 2 ≤ double.exponentBits := by decide
  have h32 : 2 ≤ single.exponentBits := by decide
  obtain ⟨b1, b2, b3⟩ := single_bounds ha
  obtain ⟨w1, w2, w3, w4⟩ := widen_num ha
  obtain ⟨k, k1, k2⟩ := widen_parts ha h0
  have ma : magOf single (rungOf single a) ≠ 0 := fun h => h0 ((mag_zero single).1 h)
  have hW0 : rungOf double (widen a) ≠ 0 := fun h => by
    have hm := (mag_zero double).2 h
    rw [k1] at hm
    have := Nat.mul_pos (Nat.pos_of_ne_zero ma) (Nat.two_pow_pos k)
    omega
  obtain ⟨v, hv, e1⟩ := sqrt_num double h64 w3 hW0 (by rw [w1]; exact hs)
  obtain ⟨z, hz, e2⟩ := sqrt_num single h32 ha h0 hs
  have ev := moreR_even double (magOf double (rungOf double (widen a))) (placeOf double (rungOf double (widen a)))
  have bg := moreR_big double (magOf double (rungOf double (widen a))) (placeOf double (rungOf double (widen a)))
  generalize moreR double (magOf double (rungOf double (widen a))) (placeOf double (rungOf double (widen a))) = x at *
  have ev2 := moreR_even single (magOf single (rungOf single a)) (placeOf single (rungOf single a))
  have bg2 := moreR_big single (magOf single (rungOf single a)) (placeOf single (rungOf single a))
  generalize moreR single (magOf single (rungOf single a)) (placeOf single (rungOf single a)) = y at *
  rw [k1, log2_scale ma] at bg
  have hmul : magOf double (rungOf double (widen a)) * 2 ^ x = magOf single (rungOf single a) * 2 ^ (k + x) := by rw [k1, Nat.mul_assoc, ← pow_split]
  rw [hmul] at hv e1
  rw [k2] at ev e1
  have hpl : placeOf single (rungOf single a) - (k : Int) - (x : Int) = placeOf single (rungOf single a) - ((k + x : Nat) : Int) := by push_cast; omega
  rw [hpl] at ev e1
  obtain ⟨t1, t2, t3⟩ := root_twice ma b1 ⟨b2, b3⟩ ev (by omega) hv _ rfl
  have hroots := rung_roots single ma ev2 ev bg2 (by have : single.fractionBits = 23 := rfl
                                                     have : double.fractionBits = 52 := rfl
                                                     omega) hz hv
  rw [hroots] at t1 t3
  refine ⟨_, _, e1, e2, .inl ⟨_, _, _, read_word_num h64 t2, ?_, ?_⟩⟩
  · rw [write_number, t1]
  · rw [read_word_num h32 t3]
    rfl
/-- a whole number of 32 bits, by 64 -/
theorem whole_narrows (way : Toward) {a : Nat} (ha : rungOf single a ≤ single.infRung) : Narrows (wholeW double way (widen a)) (wholeW single way a) := by
  have h64 : 2 ≤ double.exponentBits := by decide
  have h32 : 2 ≤ single.exponentBits := by decide
  rcases Nat.lt_or_eq_of_le ha with h | h
  · obtain ⟨b1, b2, b3⟩ := single_bounds h
    obtain ⟨w1, w2, w3, w4⟩ := widen_num h
    have hN : wholeN way (negOf double (widen a)) (magOf double (rungOf double (widen a))) (placeOf double (rungOf double (widen a))) = wholeN way (negOf single a) (magOf single (rungOf single a)) (placeOf single (rungOf single a)) := by
      rw [w1]
      by_cases h0 : rungOf single a = 0
      · have m0 : magOf single (rungOf single a) = 0 := (mag_zero single).2 h0
        have hr0 : rungOf double (widen a) = 0 := by rw [w2, m0]; unfold rung; rw [if_pos rfl]
        have m0' : magOf double (rungOf double (widen a)) = 0 := (mag_zero double).2 hr0
        rw [m0, m0']
        have key : ∀ i, wholeN way (negOf single a) 0 i = 0 := by
          intro i
          unfold wholeN cutN upN
          rw [Nat.zero_mul]
          cases way <;> simp
        rw [key, key]
      · obtain ⟨k, k1, k2⟩ := widen_parts h h0
        rw [k1, k2, wholeN_scale]
    rw [wholeW_num double h64 way w3, wholeW_num single h32 way h, hN, w1]
    have hl : double.leastPlace = -1074 := by decide
    have sl : single.leastPlace = -149 := by decide
    have h52 : double.fractionBits = 52 := rfl
    have h23 : single.fractionBits = 23 := rfl
    have key : rung double (wholeN way (negOf single a) (magOf single (rungOf single a)) (placeOf single (rungOf single a))) 0 < double.infRung ∧ rung single (wholeN way (negOf single a) (magOf single (rungOf single a)) (placeOf single (rungOf single a))) 0 < single.infRung ∧
        rung single (magOf double (rung double (wholeN way (negOf single a) (magOf single (rungOf single a)) (placeOf single (rungOf single a))) 0)) (placeOf double (rung double (wholeN way (negOf single a) (magOf single (rungOf single a)) (placeOf single (rungOf single a))) 0)) = rung single (wholeN way (negOf single a) (magOf single (rungOf single a)) (placeOf single (rungOf single a))) 0 := by
      by_cases hi : 0 ≤ placeOf single (rungOf single a)
      · rw [wholeN_pos _ _ _ hi]
        have sc : ∀ f : Format, rung f (magOf single (rungOf single a) * 2 ^ (placeOf single (rungOf single a)).toNat) 0 = rung f (magOf single (rungOf single a)) (placeOf single (rungOf single a)) := by
          intro f
          have := rung_scale f (magOf single (rungOf single a)) (placeOf single (rungOf single a)) (placeOf single (rungOf single a)).toNat
          rw [show placeOf single (rungOf single a) - ((placeOf single (rungOf single a)).toNat : Int) = 0 by omega] at this
          exact this
        rw [sc, sc]
        refine ⟨by rw [← w2]; exact w3, by rw [rung_self single h]; exact h, ?_⟩
        exact rung_exact single double (by rw [h52]; omega) (by rw [hl]; omega) (by rw [← w2]; exact w3)
      · have hle := wholeN_le way (negOf single a) (magOf single (rungOf single a)) (show placeOf single (rungOf single a) < 0 by omega)
        generalize wholeN way (negOf single a) (magOf single (rungOf single a)) (placeOf single (rungOf single a)) = N at *
        have hd := double_rung_small (n := N) (p := 0) (by omega) (by omega)
        refine ⟨hd, rung_lt_inf single ?_, rung_exact single double (by rw [h52]; omega) (by rw [hl]; omega) hd⟩
        have hlog : N.log2 ≤ 24 := by
          by_cases hN0 : N = 0
          · rw [hN0]; decide
          · have := (Nat.log2_lt hN0).2 (show N < 2 ^ 25 by omega)
            omega
        have he : (2 : Nat) ^ single.exponentBits = 256 := by decide
        unfold lastP
        rw [he, sl, h23]
        omega
    obtain ⟨k1, k2, k3⟩ := key
    refine .inl ⟨_, _, _, read_word_num h64 k1, ?_, ?_⟩
    · rw [write_number, k3]
    · rw [read_word_num h32 k2]
      rfl
  · obtain ⟨w1, w2⟩ := widen_inf h
    have e1 : wholeW double way (widen a) = double.word (negOf single a) double.infRung := by
      unfold wholeW
      rw [read_inf double h64 w2, w1]
      rfl
    have e2 : wholeW single way a = single.word (negOf single a) single.infRung := by
      unfold wholeW
      rw [read_inf single h32 h]
      rfl
    rw [e1, e2]
    refine .inr ⟨negOf single a, ?_, rfl⟩
    have hls := inf_lt_sign double
    rw [read_inf double h64 (word_rung double hls), word_neg double hls]

end Fx
end Go.Proofs.YtfdggebddcoeeaaGreatDoor

/-
  What two floats come to: names; the reference comes to that.
-/
set_option maxRecDepth 100000
noncomputable section
namespace Go.Proofs.YtfdggebddcoeeaaGreatDoor
namespace Fx
open Ieee
theorem sum_clean {d e x : Datum} (h : d.sum e = some x) : x.isNaN = false := by
  unfold Datum.sum at h
  split at h
  all_goals first
    | (cases h; done)
    | (cases h; rfl)
    | (split at h <;> first | (cases h; done) | (cases h; rfl))
theorem product_clean {d e x : Datum} (h : d.product e = some x) : x.isNaN = false := by
  unfold Datum.product at h
  split at h
  all_goals first
    | (cases h; done)
    | (cases h; rfl)
    | (split at h <;> first | (cases h; done) | (cases h; rfl))
theorem quotient_clean {k : Nat} {d e x : Datum} (h : Datum.quotient k d e = some x) : x.isNaN = false := by
  unfold Datum.quotient at h
  split at h
  all_goals first
    | (cases h; done)
    | (cases h; rfl)
    | (split at h <;> first | (cases h; done) | (cases h; rfl) | (split at h <;> first | (cases h; done) | (cases h; rfl)))
theorem root_clean {k : Nat} {d x : Datum} (h : Datum.root k d = some x) : x.isNaN = false := by
  unfold Datum.root at h
  split at h
  all_goals first
    | (cases h; done)
    | (cases h; rfl)
    | (split at h <;> first | (cases h; done) | (cases h; rfl) | (split at h <;> first | (cases h; done) | (cases h; rfl)))
theorem map_clean (f : Format) {o : Option Datum} {r : Nat} (ho : ∀ x, o = some x → x.isNaN = false) (h : o.map f.write = some r) : isNaN f r = false := by
  cases ho' : o with
  | none => rw [ho'] at h; cases h
  | some d =>
    rw [ho'] at h
    cases h
    exact write_nan f (ho d ho')
theorem below_self (f : Format) (a : Nat) : below f a a = false := by
  unfold below
  cases negOf f a <;> simp
theorem order_self (f : Format) (he : 2 ≤ f.exponentBits) (a : Nat) : (f.order a a != some .eq) = isNaN f a := by
  have h := order_eq' f he a a
  rw [below_self] at h
  cases hn : isNaN f a
  · have := h.2 ⟨hn, hn, rfl, rfl⟩
    rw [this]
    rfl
  · cases ho : f.order a a with
    | none => rfl
    | some o =>
      cases o
      · rfl
      · have := (h.1 ho).1
        rw [hn] at this
        cases this
      · rfl
theorem rung_z (f : Format) : rungOf f 0 = 0 := by unfold rungOf; exact Nat.zero_mod _
theorem neg_z (f : Format) : negOf f 0 = false := by unfold negOf; simp
theorem nan_z (f : Format) : isNaN f 0 = false := by unfold isNaN; rw [rung_z]; exact decide_eq_false (by omega)
/-- is it a nought? -/
theorem order_zero (f : Format) (he : 2 ≤ f.exponentBits) (a : Nat) : (f.order a 0 == some .eq) = decide (rungOf f a = 0) := by
  have h := order_eq' f he a 0
  rw [nan_z] at h
  have hpos : 0 < f.infRung := Nat.lt_of_lt_of_le (binade_pos f) (inf_ge f he)
  by_cases hz : rungOf f a = 0
  · have hn : isNaN f a = false := decide_eq_false (by omega)
    have h1 : below f a 0 = false := by unfold below; rw [neg_z, rung_z, hz]; cases negOf f a <;> simp
    have h2 : below f 0 a = false := by unfold below; rw [neg_z, rung_z, hz]; cases negOf f a <;> simp
    rw [h.2 ⟨hn, rfl, h1, h2⟩, decide_eq_true hz]
    rfl
  · rw [decide_eq_false hz]
    cases ho : f.order a 0 with
    | none => rfl
    | some o =>
      cases o
      · rfl
      · exfalso
        obtain ⟨_, _, h1, h2⟩ := h.1 ho
        unfold below at h1 h2
        rw [neg_z, rung_z] at h1 h2
        cases hs : negOf f a <;> rw [hs] at h1 h2 <;> simp at h1 h2 <;> omega
      · rfl
end Fx
namespace Sx
open Go Go.RowKit

def opB (op : Nat) : BinOp := match op with
  | 1 => .add
  | 2 => .sub
  | 3 => .mul
  | _ => .quo
def kindF (n : Nat) : FloatKind := cond (Nat.beq n 32) .f32 .f64
theorem kind_fmt {n : Nat} : (kindF n).format = fmtOf n := by
  unfold kindF fmtOf
  cases Nat.beq n 32 <;> rfl
/-- a NaN's answer -/
def nanW (n : Nat) : Nat := infR n + 2 ^ (fb n - 1)
def nan2 (n a b : Nat) : Bool := Fx.isNaN (fmtOf n) a || Fx.isNaN (fmtOf n) b
/-- arithmetic of two words -/
def arN (n op a b : Nat) : Nat := cond (nan2 n a b) (nanW n) ((floatBits (opB op) (kindF n) a b).getD (nanW n))
/-- the lesser one; the greater one -/
def endN (n : Nat) (mn : Bool) (a b : Nat) : Nat := cond (nan2 n a b) (nanW n) (cond (decide (Fx.rungOf (fmtOf n) a = 0 ∧ Fx.rungOf (fmtOf n) b = 0)) (cond (mn == Fx.negOf (fmtOf n) a) a b) (cond (Fx.below (fmtOf n) a b == mn) a b))
def pmN (n : Nat) (a b c d : Nat) : Nat := cond (and (!nan2 n a b) (Fx.below (fmtOf n) c d)) b a
def binN (n op a b : Nat) : Nat := match op with
  | 1 => arN n 1 a b
  | 2 => arN n 2 a b
  | 3 => arN n 3 a b
  | 4 => arN n 4 a b
  | 5 => endN n true a b
  | 6 => endN n false a b
  | 8 => pmN n a b b a
  | _ => pmN n a b a b
def FB (n op : Nat) (x y : Int) : Int := (binN n op (wordOf n x) (wordOf n y) : Nat)
def LeafFB (f : FuncId) (n op : Nat) : Prop := ∀ x y : Int, inR .u64 x → inR .u64 y → ∀ w, CX Tryz.prog f #[.int .i64 n, .int .i64 op, .int .u64 x, .int .u64 y] w (fun u w' => u = .tuple #[.int .u64 (FB n op x y), .int .i64 0] ∧ Below w.heap.size w w')
theorem bits_clean {op : BinOp} {k : FloatKind} {a b s : Nat} (h : floatBits op k a b = some s) : Fx.isNaN k.format s = false := by
  unfold floatBits at h
  split at h
  · exact Fx.map_clean _ (fun x hx => Fx.sum_clean hx) h
  · exact Fx.map_clean _ (fun x hx => Fx.sum_clean hx) h
  · exact Fx.map_clean _ (fun x hx => Fx.product_clean hx) h
  · exact Fx.map_clean _ (fun x hx => Fx.quotient_clean hx) h
  · cases h
theorem e64 : (2 : Nat) ≤ Ieee.double.exponentBits := by decide
theorem e32 : (2 : Nat) ≤ Ieee.single.exponentBits := by decide
theorem drew1 {w w1 : World} (h1 : Drew w w1) : Below w.heap.size w w1 := by
  rcases h1 with rfl | rfl
  · exact Below.refl _ _
  · exact (Below.refl _ _).drew
theorem drew3 {w w1 w2 w3 : World} (h1 : Drew w w1) (h2 : Drew w1 w2) (h3 : Drew w2 w3) : Below w.heap.size w w3 := by
  have hb := drew_below h1 h2
  rcases h3 with rfl | rfl
  · exact hb
  · exact hb.drew
theorem od_self (u : Nat) : (od u u != some .eq) = Fx.isNaN Ieee.double u := Fx.order_self _ e64 u
theorem od4_self (u : Nat) : (od4 u u != some .eq) = Fx.isNaN Ieee.single u := Fx.order_self _ e32 u
theorem od_zero (u : Nat) : (od u 0 == some .eq) = decide (Fx.rungOf Ieee.double u = 0) := Fx.order_zero _ e64 u
/-- the end of the reference's arithmetic -/
theorem ar_end {n op : Nat} (hn : n = 32 ∨ n = 64) {a b r : Nat} {u v : Nat} (hu : Fx.isNaN Ieee.double u = Fx.isNaN (fmtOf n) a) (hv : Fx.isNaN Ieee.double v = Fx.isNaN (fmtOf n) b)
    (h1 : ∀ s, floatBits (opB op) (kindF n) a b = some s → r = s) (h2 : floatBits (opB op) (kindF n) a b = none → Fx.isNaN (kindF n).format r = true) {c : Bool} (hc : c = Fx.isNaN (fmtOf n) r) {canon : Int} (hcan : canon = (nanW n : Nat)) :
    refAr canon u v r c = (arN n op a b : Nat) := by
  unfold refAr arN nan2
  rw [od_self, od_self, hu, hv, hc, hcan]
  rw [kind_fmt] at h2
  cases ha : Fx.isNaN (fmtOf n) a
  · cases hb : Fx.isNaN (fmtOf n) b
    · simp only [Bool.false_eq_true, or_self, if_false, Bool.or_self, cond_false]
      cases hf : floatBits (opB op) (kindF n) a b with
      | none => rw [h2 hf]; rfl
      | some s =>
        have hs := bits_clean hf
        rw [kind_fmt] at hs
        rw [h1 s hf, hs]
        rfl
    · simp
  · simp
theorem opB_cases (op : Nat) : opB op = .add ∨ opB op = .sub ∨ opB op = .mul ∨ opB op = .quo := by
  unfold opB
  split <;> simp
theorem nan32_lt (t : Nat) (a b : Nat) : (Question.nanBits .f32 a b).cut t < 2 ^ 32 := by
  have e : (Question.nanBits .f32 a b).cut t = (t % 2) * 2 ^ 31 + 0x7f800000 + 1 + (t / 2) % (2 ^ 23 - 1) := rfl
  rw [e]
  have h1 := Nat.mod_lt (t / 2) (show 0 < 2 ^ 23 - 1 by decide)
  have h2 := Nat.mod_lt t (show 0 < 2 by decide)
  generalize t / 2 % (2 ^ 23 - 1) = u at *
  omega
theorem arith_run32 (op : BinOp) (ho : op = .add ∨ op = .sub ∨ op = .mul ∨ op = .quo) (a b : Nat) (w : World) : ∃ r w', (∀ t, (binOp op t (.float .f32 a) (.float .f32 b)).run Tryz.prog w = .ok (.float .f32 r) w') ∧ Drew w w' ∧ (∀ s, floatBits op .f32 a b = some s → r = s) ∧ (floatBits op .f32 a b = none → Fx.isNaN FloatKind.f32.format r = true) ∧ r < 2 ^ 32 := by
  cases h : floatBits op .f32 a b with
  | some s =>
    have hw := floatBits_wf h
    simp [Lit.wf] at hw
    exact ⟨s, w, fun t => run_float_arith w op t .f32 a b s h, .inl rfl, fun s' h' => Option.some.inj h', fun h' => (by cases h'), hw⟩
  | none =>
    refine ⟨(Question.nanBits .f32 a b).cut (w.tape w.drawn (.nanBits .f32 a b)), { w with drawn := w.drawn + 1 }, fun t => ?_, .inr rfl, fun s h' => (by cases h'), fun _ => nan32 _, nan32_lt _ _ _⟩
    unfold floatBits at h
    rcases ho with rfl | rfl | rfl | rfl <;> simp only at h <;> simp [binOp, Op.floatArith, h] <;> (intro h'; exact absurd h' (by simp [Question.forced]))
theorem wide_nan {a r : Nat} (h1 : Fx.isNaN Ieee.single a = false → r = Fx.widen a) (h2 : Fx.isNaN Ieee.single a = true → Fx.isNaN Ieee.double r = true) : Fx.isNaN Ieee.double r = Fx.isNaN Ieee.single a := by
  cases ha : Fx.isNaN Ieee.single a
  · rw [h1 ha]
    have hle : Fx.rungOf Ieee.single a ≤ Ieee.single.infRung := by simpa [Fx.isNaN] using ha
    rcases Nat.lt_or_eq_of_le hle with h | h
    · have := (Fx.widen_num h).2.2.1
      exact decide_eq_false (by omega)
    · have := (Fx.widen_inf h).2
      exact decide_eq_false (by omega)
  · exact h2 ha
theorem ar64 {op : Nat} (hw : ∀ (x y : Int) (w : World) {r : Nat} {w1 : World}, (∀ t, (binOp (opB op) t (.float .f64 x.toNat) (.float .f64 y.toNat)).run Tryz.prog w = .ok (.float .f64 r) w1) → Below w.heap.size w w1 →
    Calls Tryz.prog 114 #[.int .i64 64, .int .i64 op, .int .u64 x, .int .u64 y] w fun e w' => e = .returned (.tuple #[.int .u64 (refAr 9221120237041090560 x.toNat y.toNat r (od r r != some .eq)), .int .i64 0]) ∧ Below w.heap.size w w')
    (hb : ∀ a b, binN 64 op a b = arN 64 op a b) : LeafFB 114 64 op := by
  intro x y hx hy w
  obtain ⟨r, w1, hrun, hd, h1, h2⟩ := arith_run (opB op) (opB_cases op) .f64 x.toNat y.toNat w
  refine cx_of_calls okP Tryz.func114 (by kernel_rfl) ((hw x y w hrun (drew1 hd)).mono fun e w' ⟨g1, g2⟩ => ?_)
  subst g1
  refine ⟨?_, g2⟩
  have := ar_end (n := 64) (op := op) (.inr rfl) (u := x.toNat) (v := y.toNat) rfl rfl h1 h2 (c := (od r r != some .eq)) (Fx.order_self _ e64 r) (canon := 9221120237041090560) rfl
  rw [this]
  unfold FB
  rw [hb, word64 hx, word64 hy]
theorem nonneg {x : Int} (hx : inR .u64 x) : 0 ≤ x := by
  simp [inR, IntKind.min, IntKind.max, IntKind.signed, IntKind.bits] at hx
  omega
theorem ar32 {op : Nat} (hw : ∀ (x y : Int) (w : World) (_ : 0 ≤ x) (_ : 0 ≤ y) {a b r : Nat} {w1 w2 w3 : World}, (convert 147 143 (.float .f32 (x % 4294967296).toNat)).run Tryz.prog w = .ok (.float .f64 a) w1 → (convert 147 143 (.float .f32 (y % 4294967296).toNat)).run Tryz.prog w1 = .ok (.float .f64 b) w2 →
    (∀ t, (binOp (opB op) t (.float .f32 (x % 4294967296).toNat) (.float .f32 (y % 4294967296).toNat)).run Tryz.prog w2 = .ok (.float .f32 r) w3) → r < 2 ^ 32 → Below w.heap.size w w2 → Below w.heap.size w w3 →
    Calls Tryz.prog 114 #[.int .i64 32, .int .i64 op, .int .u64 x, .int .u64 y] w fun e w' => e = .returned (.tuple #[.int .u64 (refAr 2143289344 a b r (od4 r r != some .eq)), .int .i64 0]) ∧ Below w.heap.size w w')
    (hb : ∀ a b, binN 32 op a b = arN 32 op a b) : LeafFB 114 32 op := by
  intro x y hx hy w
  obtain ⟨a, w1, hrun1, d1, a1, a2⟩ := conv_wide (x % 4294967296).toNat w
  obtain ⟨b, w2, hrun2, d2, b1, b2⟩ := conv_wide (y % 4294967296).toNat w1
  obtain ⟨r, w3, hrun3, d3, h1, h2, hr⟩ := arith_run32 (opB op) (opB_cases op) (x % 4294967296).toNat (y % 4294967296).toNat w2
  refine cx_of_calls okP Tryz.func114 (by kernel_rfl) ((hw x y w (nonneg hx) (nonneg hy) hrun1 hrun2 hrun3 hr (drew_below d1 d2) (drew3 d1 d2 d3)).mono fun e w' ⟨g1, g2⟩ => ?_)
  subst g1
  refine ⟨?_, g2⟩
  have := ar_end (n := 32) (op := op) (.inl rfl) (u := a) (v := b) (wide_nan a1 a2) (wide_nan b1 b2) h1 h2 (c := (od4 r r != some .eq)) (Fx.order_self _ e32 r) (canon := 2143289344) rfl
  rw [this]
  unfold FB
  rw [hb]
  rfl
theorem rbin64_1 : LeafFB 114 64 1 := ar64 (op := 1) wbin64_1 fun _ _ => rfl
theorem rbin64_2 : LeafFB 114 64 2 := ar64 (op := 2) wbin64_2 fun _ _ => rfl
theorem rbin64_3 : LeafFB 114 64 3 := ar64 (op := 3) wbin64_3 fun _ _ => rfl
theorem rbin64_4 : LeafFB 114 64 4 := ar64 (op := 4) wbin64_4 fun _ _ => rfl
theorem rbin32_1 : LeafFB 114 32 1 := ar32 (op := 1) wbin32_1 fun _ _ => rfl
theorem rbin32_2 : LeafFB 114 32 2 := ar32 (op := 2) wbin32_2 fun _ _ => rfl
theorem rbin32_3 : LeafFB 114 32 3 := ar32 (op := 3) wbin32_3 fun _ _ => rfl
theorem rbin32_4 : LeafFB 114 32 4 := ar32 (op := 4) wbin32_4 fun _ _ => rfl

end Sx
end Go.Proofs.YtfdggebddcoeeaaGreatDoor
end

/-
  The program's rounding: the rung nearest to m 2^e.
-/
set_option maxRecDepth 100000
noncomputable section
namespace Go.Proofs.YtfdggebddcoeeaaGreatDoor
namespace Sx
open Go Go.RowKit

theorem mem_n {n : Nat} (hn : n = 32 ∨ n = 64) : n ∈ [32, 64] := by rcases hn with rfl | rfl <;> simp
theorem mem_b (b : Bool) : b ∈ [false, true] := by cases b <;> simp
theorem mem_p {big over : Bool} (h : big = false → over = false) : (big, over) ∈ [(false, false), (true, false), (true, true)] := by
  cases big
  · rw [h rfl]; simp
  · cases over <;> simp
theorem rdA' {n : Nat} (hn : n = 32 ∨ n = 64) {big over : Bool} (h : big = false → over = false) (more : Bool) : isUE (rdRun n (rkA n big over) more) (sgnE n over) = true :=
  List.all_eq_true.1 (List.all_eq_true.1 (List.all_eq_true.1 rdA n (mem_n hn)) (big, over) (mem_p h)) more (mem_b more)
theorem rdB' {n : Nat} (hn : n = 32 ∨ n = 64) {big over : Bool} (h : big = false → over = false) {t1 t2 t3 more : Bool} (ht : (t1 && t2) = false) : isUE (rdRun n (rkB n t1 t2 t3 (t1 || (t2 && (more || t3))) big over) more) (sgnE n over) = true :=
  List.all_eq_true.1 (List.all_eq_true.1 (List.all_eq_true.1 rdB n (mem_n hn)) (big, over) (mem_p h)) (t1, t2, t3, more) (by cases t1 <;> cases t2 <;> cases t3 <;> cases more <;> first | (cases ht; done) | simp)
theorem rdC' {n : Nat} (hn : n = 32 ∨ n = 64) (more : Bool) : isUE (rdRun n (rkC n) more) (.ite (.var 0) (.lit (.ofNat (2 ^ (n - 1)))) (.lit 0)) = true :=
  List.all_eq_true.1 (List.all_eq_true.1 rdC n (mem_n hn)) more (mem_b more)
theorem rd0' {n : Nat} (hn : n = 32 ∨ n = 64) (more : Bool) : isUE (rdRun n [(mkEq mE (.lit 0), .lit 1)] more) (.ite (.var 0) (.lit (.ofNat (2 ^ (n - 1)))) (.lit 0)) = true :=
  List.all_eq_true.1 (List.all_eq_true.1 rd0 n (mem_n hn)) more (mem_b more)
theorem amt_den {E : Env} {b : SE} {c : Int} (hb : b.den E = c) (h : c < 64) : (amt .u64 b).den E = c := by
  unfold amt
  rw [ite_lt_pos (by rw [hb]; exact h), hb]
theorem shU_den {E : Env} {b : SE} {c : Int} {M : Int} (hm : mE.den E = M) (hb : b.den E = c) (h0 : 0 ≤ c) (h : c < 64) : (shU b).den E = M * 2 ^ c.toNat % 2 ^ 64 := by
  have h1 : (mkWrap .u64 b).den E = c := by rw [mkWrap_den, hb, wrap_u64]; omega
  show IntKind.u64.wrap (mE.den E * 2 ^ ((amt .u64 (mkWrap .u64 b)).den E).toNat) = _
  rw [amt_den h1 h, hm, wrap_u64]
section
variable {n : Nat} {ng : Bool} {m : Nat} {e d : Int} {K : Nat} {X : Int} {last q : Nat} {big over more : Bool}
theorem z_den (hn : n = 32 ∨ n = 64) : (SE.ite (.var 0) (.lit (.ofNat (2 ^ (n - 1)))) (.lit 0)).den (ER (vaR n ng m e d K X last q big)) = ((fmtOf n).word ng 0 : Nat) := by
  unfold Ieee.Format.word
  rw [fmt_sign hn]
  show (if (cond ng 1 0 : Int) = 0 then (0 : Int) else ((2 ^ (n - 1) : Nat) : Int)) = _
  cases ng
  · rfl
  · simp only [cond_true, if_true]
    rw [if_neg (by decide), Nat.add_zero]
theorem round_A (hn : n = 32 ∨ n = 64) (hm : m < 2 ^ 64) (h0 : m ≠ 0) (he1 : -5000 ≤ e) (he2 : e ≤ 5000) (hd : d = max (e + lenN m - 1 - fb n) (lst n) - e) (hd0 : d ≤ 0) (hK : K = m * 2 ^ (-d).toNat) (hK2 : K ≤ 2 ^ (fb n + 1)) (w : World) :
    CX Tryz.prog 201 #[fmtVal n, .bool ng, .int .u64 m, .int .i64 e, .bool more] w (fun u w' => u = .int .u64 ((fmtOf n).word ng (rungK n K (e + d - lst n)) : Nat) ∧ Below w.heap.size w w') := by
  have hl := lenN_le hm
  have hfb : (fb n = 23 ∧ lst n = -149) ∨ (fb n = 52 ∧ lst n = -1074) := by rcases hn with rfl | rfl <;> decide
  have hK64 : K < 2 ^ 64 := Nat.lt_of_le_of_lt hK2 (by rcases hfb with ⟨h, _⟩ | ⟨h, _⟩ <;> rw [h] <;> decide)
  have hd64 : (-d).toNat < 64 := by
    refine (Nat.pow_lt_pow_iff_right (a := 2) (by decide)).1 (Nat.lt_of_le_of_lt ?_ hK64)
    rw [hK]
    exact Nat.le_mul_of_pos_left _ (Nat.pos_of_ne_zero h0)
  have hov : decide (2 ^ fb n ≤ K) = false → decide ((2 : Int) ^ eb n ≤ cond (decide (2 ^ fb n ≤ K)) (e + d - lst n) 0) = false := by
    intro h
    rw [h]
    exact decide_eq_false (Int.not_le.2 (two_pow_pos _))
  refine cx_mono (round_end (d := d) (K := K) (X := e + d - lst n) (last := 0) (q := 0) (big := decide (2 ^ fb n ≤ K)) hn hm he1 he2 (rdA' hn hov more) ?_ w) fun u w' ⟨h1, h2⟩ => ⟨?_, h2⟩
  · intro p hp
    unfold rkA at hp
    rcases List.mem_append.1 hp with hp | hp
    · rcases List.mem_append.1 hp with hp | hp
      · exact rk0_ok hn hm h0 he1 he2 hd p hp
      · simp only [List.mem_cons, List.not_mem_nil, or_false] at hp
        rcases hp with rfl | rfl
        · show (mkNot (mkLt (.lit 0) dE)).den _ = (b01 true).den _
          refine not_lt_den ?_
          show true = decide (¬ (0 : Int) < d)
          rw [decide_eq_true (by omega)]
        · have hs : (mkWrap .i64 (mkSub (.lit 0) dE)).den (ER (vaR n ng m e d K (e + d - lst n) 0 0 (decide (2 ^ fb n ≤ K)))) = -d := by
            rw [mkWrap_den, mkSub_den]
            show IntKind.i64.wrap (0 - d) = _
            rw [wrap_i64 (by omega) (by omega)]
            omega
          show (shU _).den _ = kE.den _
          rw [shU_den (mE_den hm) hs (by omega) (by omega), kE_den hK64, hK]
          rw [hK] at hK64
          have : ((m * 2 ^ (-d).toNat : Nat) : Int) = (m : Int) * 2 ^ (-d).toNat := by push_cast; rfl
          omega
    · exact rkX_ok hn (kE_den hK64) rfl rfl he1 he2 (by omega) (by omega) rfl p hp
  · rw [h1, sgn_den hn hK2 (by omega) (by omega) rfl rfl]
theorem round_C (hn : n = 32 ∨ n = 64) (hm : m < 2 ^ 64) (h0 : m ≠ 0) (he1 : -5000 ≤ e) (he2 : e ≤ 5000) (hd : d = max (e + lenN m - 1 - fb n) (lst n) - e) (hd0 : 64 < d) (w : World) :
    CX Tryz.prog 201 #[fmtVal n, .bool ng, .int .u64 m, .int .i64 e, .bool more] w (fun u w' => u = .int .u64 ((fmtOf n).word ng 0 : Nat) ∧ Below w.heap.size w w') := by
  refine cx_mono (round_end (d := d) (K := 0) (X := 0) (last := 0) (q := 0) (big := false) hn hm he1 he2 (rdC' hn more) ?_ w) fun u w' ⟨h1, h2⟩ => ⟨?_, h2⟩
  · intro p hp
    unfold rkC at hp
    rcases List.mem_append.1 hp with hp | hp
    · exact rk0_ok hn hm h0 he1 he2 hd p hp
    · simp only [List.mem_cons, List.not_mem_nil, or_false] at hp
      rcases hp with rfl | rfl
      · show (mkNot (mkLt (.lit 0) dE)).den _ = (b01 false).den _
        refine not_lt_den ?_
        show false = decide (¬ (0 : Int) < d)
        rw [decide_eq_false (by omega)]
      · show (mkLt (.lit 64) dE).den _ = (b01 true).den _
        refine lt_den ?_
        show true = decide ((64 : Int) < d)
        rw [decide_eq_true hd0]
  · rw [h1, z_den hn]
theorem round_0 (hn : n = 32 ∨ n = 64) (he1 : -5000 ≤ e) (he2 : e ≤ 5000) (w : World) :
    CX Tryz.prog 201 #[fmtVal n, .bool ng, .int .u64 ((0 : Nat) : Int), .int .i64 e, .bool more] w (fun u w' => u = .int .u64 ((fmtOf n).word ng 0 : Nat) ∧ Below w.heap.size w w') := by
  refine cx_mono (round_end (d := 0) (K := 0) (X := 0) (last := 0) (q := 0) (big := false) hn (by decide) he1 he2 (rd0' hn more) ?_ w) fun u w' ⟨h1, h2⟩ => ⟨?_, h2⟩
  · intro p hp
    simp only [List.mem_cons, List.not_mem_nil, or_false] at hp
    subst hp
    show (mkEq mE (.lit 0)).den _ = (b01 true).den _
    refine eq_den ?_
    rw [mE_den (m := 0) (by decide)]
    rfl
  · rw [h1, z_den hn]
end

end Sx
end Go.Proofs.YtfdggebddcoeeaaGreatDoor
end

/-
  The program's rounding, whole.
-/
set_option maxRecDepth 100000
noncomputable section
namespace Go.Proofs.YtfdggebddcoeeaaGreatDoor
namespace Sx
open Go Go.RowKit

section
variable {n : Nat} {ng : Bool} {m : Nat} {e d : Int} {K : Nat} {X : Int} {last q : Nat} {big over more : Bool}
theorem round_B (hn : n = 32 ∨ n = 64) (hm : m < 2 ^ 64) (h0 : m ≠ 0) (he1 : -5000 ≤ e) (he2 : e ≤ 5000) (hd : d = max (e + lenN m - 1 - fb n) (lst n) - e) {D : Nat} (hD : d = D) (hd1 : 1 ≤ D) (hd2 : D ≤ 64) (hlast : last = m % 2 ^ D * 2 ^ (64 - D)) (hq : q = m / 2 ^ D)
    {up : Bool} (hup : up = (decide (2 ^ 63 < last) || (decide (last = 2 ^ 63) && (more || decide (q % 2 = 1))))) (hK : K = q + cond up 1 0) (hK2 : K ≤ 2 ^ (fb n + 1)) (w : World) :
    CX Tryz.prog 201 #[fmtVal n, .bool ng, .int .u64 m, .int .i64 e, .bool more] w (fun u w' => u = .int .u64 ((fmtOf n).word ng (rungK n K (e + d - lst n)) : Nat) ∧ Below w.heap.size w w') := by
  have hl := lenN_le hm
  have hfb : (fb n = 23 ∧ lst n = -149) ∨ (fb n = 52 ∧ lst n = -1074) := by rcases hn with rfl | rfl <;> decide
  have hK64 : K < 2 ^ 64 := Nat.lt_of_le_of_lt hK2 (by rcases hfb with ⟨h, _⟩ | ⟨h, _⟩ <;> rw [h] <;> decide)
  have hov : decide (2 ^ fb n ≤ K) = false → decide ((2 : Int) ^ eb n ≤ cond (decide (2 ^ fb n ≤ K)) (e + d - lst n) 0) = false := by
    intro h
    rw [h]
    exact decide_eq_false (Int.not_le.2 (two_pow_pos _))
  have hpow : 2 ^ D * 2 ^ (64 - D) = 2 ^ 64 := by rw [← Fx.pow_split]; congr 1; omega
  have hlast64 : last < 2 ^ 64 := by
    rw [hlast, ← hpow]
    exact Nat.mul_lt_mul_of_pos_right (Nat.mod_lt _ (Nat.two_pow_pos _)) (Nat.two_pow_pos _)
  have hq64 : q < 2 ^ 64 := by rw [hq]; exact Nat.lt_of_le_of_lt (Nat.div_le_self _ _) hm
  have ht : (decide (2 ^ 63 < last) && decide (last = 2 ^ 63)) = false := by
    by_cases h : last = 2 ^ 63
    · rw [decide_eq_false (by omega : ¬ 2 ^ 63 < last)]; rfl
    · rw [decide_eq_false h, Bool.and_false]
  refine cx_mono (round_end (d := d) (K := K) (X := e + d - lst n) (last := last) (q := q) (big := decide (2 ^ fb n ≤ K)) hn hm he1 he2 (rdB' hn hov (t1 := decide (2 ^ 63 < last)) (t2 := decide (last = 2 ^ 63)) (t3 := decide (q % 2 = 1)) (more := more) ht) ?_ w) fun u w' ⟨h1, h2⟩ => ⟨?_, h2⟩
  · rw [← hup]
    intro p hp
    have h7 : (SE.md (.var 7) 64).den (ER (vaR n ng m e d K (e + d - lst n) last q (decide (2 ^ fb n ≤ K)))) = last := by
      show (last : Int) % 2 ^ 64 = last
      omega
    have hm1 : (cond up (.md (.var 8) 64) kE : SE).den (ER (vaR n ng m e d K (e + d - lst n) last q (decide (2 ^ fb n ≤ K)))) = q := by
      cases up
      · show kE.den _ = _
        rw [kE_den hK64, hK]
        rfl
      · show (q : Int) % 2 ^ 64 = q
        omega
    have hs : ∀ c : Int, 0 ≤ c → c ≤ 64 → (mkWrap .i64 (mkSub (.lit c) dE)).den (ER (vaR n ng m e d K (e + d - lst n) last q (decide (2 ^ fb n ≤ K)))) = c - d := by
      intro c c0 c1
      rw [mkWrap_den, mkSub_den]
      show IntKind.i64.wrap (c - d) = _
      rw [wrap_i64 (by omega) (by omega)]
    unfold rkB at hp
    rcases List.mem_append.1 hp with hp | hp
    · rcases List.mem_append.1 hp with hp | hp
      · rcases List.mem_append.1 hp with hp | hp
        · exact rk0_ok hn hm h0 he1 he2 hd p hp
        · simp only [List.mem_cons, List.not_mem_nil, or_false] at hp
          rcases hp with rfl | rfl | rfl | rfl | rfl | rfl | rfl
          · show (mkNot (mkLt (.lit 0) dE)).den _ = (b01 false).den _
            refine not_lt_den ?_
            show false = decide (¬ (0 : Int) < d)
            rw [decide_eq_false (by omega)]
          · show (mkLt (.lit 64) dE).den _ = (b01 false).den _
            refine lt_den ?_
            show false = decide ((64 : Int) < d)
            rw [decide_eq_false (by omega)]
          · show (shU _).den _ = (SE.md (.var 7) 64).den _
            rw [shU_den (mE_den hm) (hs 64 (by omega) (by omega)) (by omega) (by omega), h7, hlast, hD]
            have e1 : (64 - (D : Int)).toNat = 64 - D := by omega
            rw [e1]
            have e2 : m * 2 ^ (64 - D) % 2 ^ 64 = m % 2 ^ D * 2 ^ (64 - D) := by rw [← hpow, Nat.mul_mod_mul_right]
            have e3 : ((m * 2 ^ (64 - D) % 2 ^ 64 : Nat) : Int) = (m : Int) * 2 ^ (64 - D) % 2 ^ 64 := by rw [Int.natCast_emod, Int.natCast_mul, Int.natCast_pow]; rfl
            rw [← e3, e2]
          · have hb : (mkWrap .u64 (mkWrap .i64 (mkSub dE (.lit 1)))).den (ER (vaR n ng m e d K (e + d - lst n) last q (decide (2 ^ fb n ≤ K)))) = d - 1 := by
              rw [mkWrap_den, mkWrap_den, mkSub_den]
              show IntKind.u64.wrap (IntKind.i64.wrap (d - 1)) = _
              rw [wrap_i64 (by omega) (by omega), wrap_u64]
              omega
            show (mkShr mE 1).den _ / 2 ^ ((amt .u64 _).den _).toNat = (cond up (.md (.var 8) 64) kE : SE).den _
            rw [amt_den hb (by omega), hm1, mkShr_den, mE_den hm, hq]
            have e1 : (d - 1).toNat = D - 1 := by omega
            rw [e1]
            have e2 : m / 2 ^ 1 / 2 ^ (D - 1) = m / 2 ^ D := by rw [Nat.div_div_eq_div_mul, ← Nat.pow_add]; congr 2; omega
            rw [← e2]
            push_cast
            rfl
          · show (mkLt (.lit (.ofNat (2 ^ 63))) (.md (.var 7) 64)).den _ = (b01 _).den _
            refine lt_den ?_
            rw [h7]
            show _ = decide (((2 ^ 63 : Nat) : Int) < (last : Int))
            congr 1
            simp only [Int.ofNat_lt]
          · show (mkEq (.md (.var 7) 64) (.lit (.ofNat (2 ^ 63)))).den _ = (b01 _).den _
            refine eq_den ?_
            rw [h7]
            show _ = decide ((last : Int) = ((2 ^ 63 : Nat) : Int))
            congr 1
            simp only [Int.natCast_inj]
          · show (mkEq (mkMd _ 1) (.lit 1)).den _ = (b01 _).den _
            refine eq_den ?_
            rw [mkMd_den, hm1]
            show _ = decide ((q : Int) % 2 ^ 1 = 1)
            congr 1
            apply propext
            omega
      · cases hu : up <;> rw [hu] at hp
        · cases hp
        · simp only [cond_true, List.mem_cons, List.not_mem_nil, or_false] at hp
          subst hp
          rw [hu] at hm1 hK
          show (mkWrap .u64 (mkAdd (.md (.var 8) 64) (.lit 1))).den _ = kE.den _
          have hm1' : (SE.md (.var 8) 64).den (ER (vaR n ng m e d K (e + d - lst n) last q (decide (2 ^ fb n ≤ K)))) = q := hm1
          rw [mkWrap_den, mkAdd_den, hm1', kE_den hK64, wrap_u64]
          show ((q : Int) + 1) % 2 ^ 64 = K
          rw [hK] at hK64 ⊢
          simp only [cond_true] at *
          omega
    · exact rkX_ok hn (kE_den hK64) rfl rfl he1 he2 (by omega) (by omega) rfl p hp
  · rw [h1, sgn_den hn hK2 (by omega) (by omega) rfl rfl]
end

end Sx
end Go.Proofs.YtfdggebddcoeeaaGreatDoor
end

/-
  The program's rounding answers the rung nearest to m 2^e, or to m and a little more.
-/
set_option maxRecDepth 100000
noncomputable section
namespace Go.Proofs.YtfdggebddcoeeaaGreatDoor
namespace Sx
open Go Go.RowKit

theorem rungK_eq {n : Nat} (hn : n = 32 ∨ n = 64) {m : Nat} (hm : m ≠ 0) (e : Int) {K : Nat} (hK : K = Fx.keptOf (fmtOf n) m e) {X : Int} (hX : X = Fx.lastP (fmtOf n) m e - lst n) : rungK n K X = Fx.rung (fmtOf n) m e := by
  obtain ⟨h1, h2, h3, h4⟩ := fmt_nums hn
  rw [Fx.round_eq _ hm]
  unfold rungK Fx.xOf Ieee.Format.binade
  rw [h1, h2, h3, h4, ← hK, ← hX]
theorem drop_eq {n : Nat} (hn : n = 32 ∨ n = 64) {m : Nat} (hm : m ≠ 0) (e : Int) : Fx.lastP (fmtOf n) m e = max (e + lenN m - 1 - fb n) (lst n) := by
  obtain ⟨h1, h2, h3, h4⟩ := fmt_nums hn
  unfold Fx.lastP lenN
  rw [h1, h2, if_neg hm]
  omega
theorem rungK_zero (n : Nat) (X : Int) : rungK n 0 X = 0 := by
  have h1 := Nat.two_pow_pos (fb n)
  have h2 := Nat.two_pow_pos (eb n)
  unfold rungK
  rw [if_neg (c := 2 ^ fb n ≤ 0) (by omega), if_neg (by omega), Nat.zero_mul, Nat.zero_add, Nat.zero_min]
def Rounds (n : Nat) (ng : Bool) (m : Nat) (e : Int) (more : Bool) (r : Nat) : Prop := ∀ w, CX Tryz.prog 201 #[fmtVal n, .bool ng, .int .u64 m, .int .i64 e, .bool more] w (fun u w' => u = .int .u64 ((fmtOf n).word ng r : Nat) ∧ Below w.heap.size w w')
theorem round_plain {n : Nat} (hn : n = 32 ∨ n = 64) (ng : Bool) {m : Nat} (hm : m < 2 ^ 64) {e : Int} (he1 : -5000 ≤ e) (he2 : e ≤ 5000) : Rounds n ng m e false (Fx.rung (fmtOf n) m e) := by
  intro w
  obtain ⟨h1, h2, h3, h4⟩ := fmt_nums hn
  by_cases h0 : m = 0
  · subst h0
    have : Fx.rung (fmtOf n) 0 e = 0 := by unfold Fx.rung; rw [if_pos rfl]
    rw [this]
    exact round_0 hn he1 he2 w
  have hl := drop_eq hn h0 e
  have hk2 := Fx.kept_le (fmtOf n) h0 e
  rw [h1] at hk2
  generalize hd : max (e + lenN m - 1 - fb n) (lst n) - e = d at *
  have hdd : Fx.dropOf (fmtOf n) m e = d := by unfold Fx.dropOf; rw [hl, hd]
  by_cases hA : d ≤ 0
  · have hK : Fx.keptOf (fmtOf n) m e = m * 2 ^ (-d).toNat := by unfold Fx.keptOf; rw [hdd, if_pos hA]
    rw [← rungK_eq hn h0 e rfl (X := e + d - lst n) (by omega)]
    exact round_A hn hm h0 he1 he2 hd.symm hA hK hk2 w
  have hK : Fx.keptOf (fmtOf n) m e = Fx.rnd m d.toNat := by unfold Fx.keptOf; rw [hdd, if_neg hA]
  by_cases hB : d ≤ 64
  · rw [← rungK_eq hn h0 e rfl (X := e + d - lst n) (by omega)]
    refine round_B hn hm h0 he1 he2 hd.symm (D := d.toNat) (by omega) (by omega) (by omega) rfl rfl (more := false) rfl ?_ hk2 w
    rw [hK, Fx.kept_drop (by omega) (by omega)]
    congr 1
    simp only [Bool.false_or]
    generalize m % 2 ^ d.toNat * 2 ^ (64 - d.toNat) = L
    generalize m / 2 ^ d.toNat = q
    by_cases c1 : 2 ^ 63 < L
    · rw [if_pos (Or.inl c1), decide_eq_true c1]; rfl
    · rw [decide_eq_false c1]
      by_cases c2 : L = 2 ^ 63
      · rw [decide_eq_true c2]
        by_cases c3 : q % 2 = 1
        · rw [if_pos (Or.inr ⟨c2, c3⟩), decide_eq_true c3]; rfl
        · rw [if_neg (by omega), decide_eq_false c3]; rfl
      · rw [if_neg (by omega), decide_eq_false c2]; rfl
  · have hK0 : Fx.keptOf (fmtOf n) m e = 0 := by rw [hK, Fx.kept_far hm (by omega)]
    have : rungK n 0 (e + d - lst n) = 0 := rungK_zero _ _
    rw [← rungK_eq hn h0 e hK0.symm (X := e + d - lst n) (by omega), this]
    exact round_C hn hm h0 he1 he2 hd.symm (by omega) w
theorem lenN_more {m : Nat} (h : m ≠ 0) : lenN (2 * m + 1) = lenN m + 1 := by
  unfold lenN
  rw [if_neg h, if_neg (by omega)]
  have := Fx.log2_bounds h
  have h1 : (2 * m + 1).log2 = m.log2 + 1 := (Nat.log2_eq_iff (by omega)).2 ⟨by rw [Nat.pow_succ]; omega, by rw [Nat.pow_succ]; omega⟩
  omega
theorem round_more {n : Nat} (hn : n = 32 ∨ n = 64) (ng : Bool) {m : Nat} (hm : m < 2 ^ 64) (hbig : 2 ^ 58 ≤ m) {e : Int} (he1 : -5000 ≤ e) (he2 : e ≤ 5000) : Rounds n ng m e true (Fx.rung (fmtOf n) (2 * m + 1) (e - 1)) := by
  intro w
  obtain ⟨h1, h2, h3, h4⟩ := fmt_nums hn
  have hfb : fb n ≤ 52 := by rcases hn with rfl | rfl <;> decide
  have h0 : m ≠ 0 := by omega
  have h0' : 2 * m + 1 ≠ 0 := by omega
  have hlen : 59 ≤ lenN m := by
    unfold lenN
    rw [if_neg h0]
    have := (Nat.le_log2 h0).2 hbig
    omega
  have hl := drop_eq hn h0' (e - 1)
  rw [lenN_more h0] at hl
  have hl' : Fx.lastP (fmtOf n) (2 * m + 1) (e - 1) = max (e + lenN m - 1 - fb n) (lst n) := by rw [hl]; omega
  have hk2 := Fx.kept_le (fmtOf n) h0' (e - 1)
  rw [h1] at hk2
  generalize hd : max (e + lenN m - 1 - fb n) (lst n) - e = d at *
  have hdd : Fx.dropOf (fmtOf n) (2 * m + 1) (e - 1) = d + 1 := by unfold Fx.dropOf; omega
  have hA : 1 ≤ d := by omega
  have hK : Fx.keptOf (fmtOf n) (2 * m + 1) (e - 1) = m / 2 ^ d.toNat + (if 2 ^ d.toNat ≤ 2 * (m % 2 ^ d.toNat) then 1 else 0) := by
    unfold Fx.keptOf
    rw [hdd, if_neg (by omega), show (d + 1).toNat = d.toNat + 1 by omega, Fx.rnd_more (by omega)]
  by_cases hB : d ≤ 64
  · rw [← rungK_eq hn h0' (e - 1) rfl (X := e + d - lst n) (by omega)]
    refine round_B hn hm h0 he1 he2 hd.symm (D := d.toNat) (by omega) (by omega) (by omega) rfl rfl (more := true) rfl ?_ hk2 w
    rw [hK]
    congr 1
    simp only [Bool.true_or, Bool.and_true]
    have hpow : 2 ^ d.toNat * 2 ^ (64 - d.toNat) = 2 ^ 64 := by rw [← Fx.pow_split]; congr 1; omega
    have hc : 2 ^ d.toNat ≤ 2 * (m % 2 ^ d.toNat) ↔ 2 ^ 63 ≤ m % 2 ^ d.toNat * 2 ^ (64 - d.toNat) := by
      have : 2 ^ d.toNat ≤ 2 * (m % 2 ^ d.toNat) ↔ 2 ^ d.toNat * 2 ^ (64 - d.toNat) ≤ 2 * (m % 2 ^ d.toNat) * 2 ^ (64 - d.toNat) := (Nat.mul_le_mul_right_iff (Nat.two_pow_pos _)).symm
      rw [this, hpow, Nat.mul_assoc]
      omega
    simp only [hc]
    generalize m % 2 ^ d.toNat * 2 ^ (64 - d.toNat) = L
    by_cases c1 : 2 ^ 63 < L
    · rw [if_pos (by omega), decide_eq_true c1]; rfl
    · rw [decide_eq_false c1]
      by_cases c2 : L = 2 ^ 63
      · rw [if_pos (by omega), decide_eq_true c2]; rfl
      · rw [if_neg (by omega), decide_eq_false c2]; rfl
  · have hp : 2 ^ 65 ≤ 2 ^ d.toNat := Nat.pow_le_pow_right (by decide) (by omega)
    have hK0 : Fx.keptOf (fmtOf n) (2 * m + 1) (e - 1) = 0 := by
      rw [hK, Nat.div_eq_of_lt (by omega), Nat.mod_eq_of_lt (by omega), if_neg (by omega)]
    have : rungK n 0 (e + d - lst n) = 0 := rungK_zero _ _
    rw [← rungK_eq hn h0' (e - 1) hK0.symm (X := e + d - lst n) (by omega), this]
    exact round_C hn hm h0 he1 he2 hd.symm (by omega) w

end Sx
end Go.Proofs.YtfdggebddcoeeaaGreatDoor
end

/-
  The program's parts of a float, and jam: what they answer.
-/
set_option maxRecDepth 100000
noncomputable section
namespace Go.Proofs.YtfdggebddcoeeaaGreatDoor
namespace Sx
open Go Go.RowKit

def xpE (n : Nat) : SE := .shr (.md (.var 0) (n - 1)) (.lit (.ofNat (fb n)))
def magX (n : Nat) : SE := .ite (.eq (xpE n) (.lit 0)) (.md (.var 0) (fb n)) (.bit .or .u64 (.md (.var 0) (fb n)) (.lit (.ofNat (2 ^ fb n))))
def plcX (n : Nat) : SE := .ite (.eq (xpE n) (.lit 0)) (.lit (lst n)) (.wrap .i64 (.sub (.wrap .i64 (.add (.lit (lst n)) (xpE n))) (.lit 1)))
def isT2 (r : R) (a b : SE) : Bool := match r with
  | some (v, _, _) => match v with
    | .tup l => match l with
      | [x, y] => match x with
        | .int k e => match y with
          | .int j z => cond (decide (k = .u64)) (cond (decide (j = .i64)) (cond (SE.beq e a) (SE.beq z b) false) false) false
          | _ => false
        | _ => false
      | _ => false
    | _ => false
  | none => false
theorem isT2_ok {r : R} {a b : SE} (h : isT2 r a b = true) : ∃ hp k, r = some (.tup [.int .u64 a, .int .i64 b], hp, k) := by
  unfold isT2 at h
  repeat' (split at h)
  all_goals first
    | (cases h; done)
    | (rename_i k e _ j z
       cases h2 : decide (k = IntKind.u64) <;> rw [h2] at h <;> try (cases h; done)
       cases h3 : decide (j = IntKind.i64) <;> rw [h3] at h <;> try (cases h; done)
       cases h4 : SE.beq e a <;> rw [h4] at h <;> try (cases h; done)
       rw [of_decide_eq_true h2, of_decide_eq_true h3, SE.beq_eq h4, SE.beq_eq h]
       exact ⟨_, _, rfl⟩)
theorem pt32 : isT2 (run0 [] 199 [fmtV 32, numU 0]) (magX 32) (plcX 32) = true := by kernel_rfl
theorem pt64 : isT2 (run0 [] 199 [fmtV 64, numU 0]) (magX 64) (plcX 64) = true := by kernel_rfl
/-- a float's rung, by its number -/
def rgI (n : Nat) (a : Int) : Nat := (a % 2 ^ (n - 1)).toNat
theorem parts_cx {n : Nat} (hn : n = 32 ∨ n = 64) {a : Int} (ha : inR .u64 a) (w : World) :
    CX Tryz.prog 199 #[fmtVal n, .int .u64 a] w (fun u w' => u = .tuple #[.int .u64 (Fx.magOf (fmtOf n) (rgI n a) : Nat), .int .i64 (Fx.placeOf (fmtOf n) (rgI n a))] ∧ Below w.heap.size w w') := by
  obtain ⟨h1, h2, h3, h4⟩ := fmt_nums hn
  have hr : isT2 (run0 [] 199 [fmtV n, numU 0]) (magX n) (plcX n) = true := by 
    rcases hn with rfl | rfl
    · exact pt32
    · exact pt64
  obtain ⟨hp, k, e⟩ := isT2_ok hr
  have hw : wfL (vars2 a 0) 0 [fmtV n, numU 0] := by
    refine ⟨⟨?_, ?_, trivial⟩, u64_md _, trivial⟩
    · rcases hn with rfl | rfl <;> exact in_bits (by decide)
    · rcases hn with rfl | rfl <;> exact in_bits (by decide)
  have hc := leaf_cx e (vars2 a 0) (fun p hp => by cases hp) hw w
  have hargs : (denL (vars2 a 0) loc0 [fmtV n, numU 0]).toArray = #[fmtVal n, .int .u64 a] := by
    show #[fmtVal n, .int .u64 (a % 2 ^ 64)] = _
    rw [u64_id ha]
  rw [hargs] at hc
  refine cx_mono hc fun v w' ⟨⟨loc', e1⟩, e2, _⟩ => ⟨?_, e2⟩
  rw [e1]
  have ha' := emod_range a (n - 1)
  have hx : (xpE n).den (vars2 a 0) = ((rgI n a / 2 ^ fb n : Nat) : Int) := by
    show a % 2 ^ (n - 1) / 2 ^ ((fb n : Int)).toNat = _
    unfold rgI
    rw [Int.toNat_natCast]
    push_cast
    rw [Int.toNat_of_nonneg ha'.1]
  have hm : a % 2 ^ fb n = ((rgI n a % 2 ^ fb n : Nat) : Int) := by
    unfold rgI
    push_cast
    rw [Int.toNat_of_nonneg ha'.1, emod_emod_pow a (by rcases hn with rfl | rfl <;> decide)]
  have hb : (fmtOf n).binade = 2 ^ fb n := by unfold Ieee.Format.binade; rw [h1]
  have hlt : rgI n a < 2 ^ fb n ↔ rgI n a / 2 ^ fb n = 0 := by rw [Nat.div_eq_zero_iff]; have := Nat.two_pow_pos (fb n); omega
  have hxx : rgI n a / 2 ^ fb n < 2 ^ 11 := by
    have : rgI n a < 2 ^ (n - 1) := by
      have h5 : ((2 ^ (n - 1) : Nat) : Int) = 2 ^ (n - 1) := by push_cast; rfl
      unfold rgI
      omega
    rw [Nat.div_lt_iff_lt_mul (Nat.two_pow_pos _)]
    refine Nat.lt_of_lt_of_le this ?_
    rw [← Nat.pow_add]
    exact Nat.pow_le_pow_right (by decide) (by rcases hn with rfl | rfl <;> decide)
  have hmod := Nat.mod_lt (rgI n a) (Nat.two_pow_pos (fb n))
  have hls : lst n = -149 ∨ lst n = -1074 := by rcases hn with rfl | rfl <;> decide
  have e_mag : (magX n).den (vars2 a 0) = (Fx.magOf (fmtOf n) (rgI n a) : Nat) := by
    show (if (if (xpE n).den (vars2 a 0) = 0 then (1 : Int) else 0) = 0 then bitsI .or .u64 (a % 2 ^ fb n) ((2 ^ fb n : Nat) : Int) else a % 2 ^ fb n) = _
    unfold Fx.magOf
    rw [hx, hb]
    by_cases h : rgI n a < 2 ^ fb n
    · rw [if_pos (show ((rgI n a / 2 ^ fb n : Nat) : Int) = 0 by have := hlt.1 h; omega), if_neg (by decide), if_pos h, hm, Nat.mod_eq_of_lt h]
    · rw [if_neg (show ¬ ((rgI n a / 2 ^ fb n : Nat) : Int) = 0 by intro h'; exact h (hlt.2 (by omega))), if_pos rfl, if_neg h, hm]
      have hp : ((2 ^ fb n : Nat) : Int) = 1 * 2 ^ fb n := by push_cast; omega
      have hp' : ((2 ^ fb n : Nat) : Int) = 2 ^ fb n := by push_cast; rfl
      have hfb : fb n ≤ 52 := by rcases hn with rfl | rfl <;> decide
      have hsm : 2 ^ fb n ≤ 2 ^ 52 := Nat.pow_le_pow_right (by decide) hfb
      have hor := or_shl .u64 ((rgI n a % 2 ^ fb n : Nat) : Int) 1 (fb n) rfl (by omega) (by omega)
        (by simp only [inR, IntKind.min, IntKind.max, IntKind.signed, IntKind.bits]; simp; omega) (by rw [← hp]; simp only [inR, IntKind.min, IntKind.max, IntKind.signed, IntKind.bits]; simp; omega)
      rw [hp, hor]
      omega
  have e_plc : (plcX n).den (vars2 a 0) = Fx.placeOf (fmtOf n) (rgI n a) := by
    show (if (if (xpE n).den (vars2 a 0) = 0 then (1 : Int) else 0) = 0 then IntKind.i64.wrap (IntKind.i64.wrap (lst n + (xpE n).den (vars2 a 0)) - 1) else lst n) = _
    unfold Fx.placeOf
    rw [hx, hb, h2]
    clear e_mag hx
    generalize rgI n a / 2 ^ fb n = Q at *
    by_cases h : rgI n a < 2 ^ fb n
    · rw [if_pos (show (Q : Int) = 0 by have := hlt.1 h; omega), if_neg (by decide), if_pos h]
      omega
    · have h' : Q ≠ 0 := fun h' => h (hlt.2 h')
      rw [if_neg (show ¬ (Q : Int) = 0 by omega), if_pos rfl, if_neg h]
      rw [wrap_i64 (x := lst n + _) (by omega) (by omega), wrap_i64 (by omega) (by omega)]
      omega
  show Value.tuple #[.int .u64 ((magX n).den (vars2 a 0)), .int .i64 ((plcX n).den (vars2 a 0))] = _
  rw [e_mag, e_plc]

end Sx
end Go.Proofs.YtfdggebddcoeeaaGreatDoor
end

/-
  The program's jam: what it answers.
-/
set_option maxRecDepth 100000
noncomputable section
namespace Go.Proofs.YtfdggebddcoeeaaGreatDoor
namespace Sx
open Go Go.RowKit

def byX : SE := .ite (.lt (.lit 63) (.var 1)) (.lit 63) (.var 1)
def byU : SE := .ite (.lt (.wrap .u64 byX) (.lit 64)) (.wrap .u64 byX) (.lit 64)
def outX : SE := .shr (.md (.var 0) 64) byU
def jamX : SE := .ite (.eq (.eq (.wrap .u64 (.shl outX byU)) (.md (.var 0) 64)) (.lit 0)) (.bit .or .u64 outX (.lit 1)) outX
theorem jam_run : isUE (run0 [] 202 [numU 0, .int .i64 (.var 1)]) jamX = true := by kernel_rfl
theorem jam_cx {a : Nat} (ha : a < 2 ^ 64) {b : Int} (hb : inR .i64 b) (h0 : 0 ≤ b) (w : World) :
    CX Tryz.prog 202 #[.int .u64 (a : Nat), .int .i64 b] w (fun u w' => u = .int .u64 (Fx.jam a (min b.toNat 63) : Nat) ∧ Below w.heap.size w w') := by
  obtain ⟨hp, k, e⟩ := isUE_ok jam_run
  have hau : inR .u64 (a : Int) := by simp only [inR, IntKind.min, IntKind.max, IntKind.signed, IntKind.bits]; simp; omega
  have hw : wfL (vars2 (a : Int) b) 0 [numU 0, .int .i64 (.var 1)] := ⟨u64_md _, hb, trivial⟩
  have hc := leaf_cx e (vars2 (a : Int) b) (fun p hp => by cases hp) hw w
  have hargs : (denL (vars2 (a : Int) b) loc0 [numU 0, .int .i64 (.var 1)]).toArray = #[.int .u64 (a : Nat), .int .i64 b] := by
    show #[Value.int .u64 ((a : Int) % 2 ^ 64), .int .i64 b] = _
    rw [u64_id hau]
  rw [hargs] at hc
  refine cx_mono hc fun v w' ⟨⟨loc', e1⟩, e2, _⟩ => ⟨?_, e2⟩
  rw [e1]
  have hby : byX.den (vars2 (a : Int) b) = ((min b.toNat 63 : Nat) : Int) := by
    show (if (if (63 : Int) < b then (1 : Int) else 0) = 0 then b else 63) = _
    by_cases h : 63 < b
    · rw [if_pos h, if_neg (by decide)]; omega
    · rw [if_neg h, if_pos rfl]; omega
  have hj : min b.toNat 63 ≤ 63 := Nat.min_le_right _ _
  generalize min b.toNat 63 = j at *
  have hwu : IntKind.u64.wrap (byX.den (vars2 (a : Int) b)) = j := by rw [hby, wrap_u64]; omega
  have hbu : byU.den (vars2 (a : Int) b) = j := by
    show (if (if IntKind.u64.wrap (byX.den (vars2 (a : Int) b)) < 64 then (1 : Int) else 0) = 0 then 64 else IntKind.u64.wrap (byX.den (vars2 (a : Int) b))) = _
    rw [hwu, if_pos (show (j : Int) < 64 by omega), if_neg (by decide)]
  have hout : outX.den (vars2 (a : Int) b) = ((a / 2 ^ j : Nat) : Int) := by
    show (a : Int) % 2 ^ 64 / 2 ^ (byU.den (vars2 (a : Int) b)).toNat = _
    rw [hbu, u64_id hau, Int.toNat_natCast]
    push_cast
    rfl
  have hsh : IntKind.u64.wrap (outX.den (vars2 (a : Int) b) * 2 ^ (byU.den (vars2 (a : Int) b)).toNat) = ((a / 2 ^ j * 2 ^ j : Nat) : Int) := by
    have hle : a / 2 ^ j * 2 ^ j ≤ a := Nat.div_mul_le_self _ _
    rw [hout, hbu, Int.toNat_natCast, wrap_u64]
    have : ((a / 2 ^ j : Nat) : Int) * 2 ^ j = ((a / 2 ^ j * 2 ^ j : Nat) : Int) := by push_cast; rfl
    rw [this]
    omega
  show Value.int .u64 (if (if (if IntKind.u64.wrap (outX.den (vars2 (a : Int) b) * 2 ^ (byU.den (vars2 (a : Int) b)).toNat) = (a : Int) % 2 ^ 64 then (1 : Int) else 0) = 0 then (1 : Int) else 0) = 0 then outX.den (vars2 (a : Int) b) else bitsI .or .u64 (outX.den (vars2 (a : Int) b)) 1) = _
  rw [hsh, u64_id hau, hout]
  congr 1
  have hdm := Nat.div_add_mod a (2 ^ j)
  rw [Nat.mul_comm] at hdm
  unfold Fx.jam
  by_cases h : a % 2 ^ j = 0
  · rw [if_pos (show ((a / 2 ^ j * 2 ^ j : Nat) : Int) = a by omega), if_neg (c := (1 : Int) = 0) (by decide), if_pos rfl, if_pos h]
  · rw [if_neg (show ¬ ((a / 2 ^ j * 2 ^ j : Nat) : Int) = a by omega), if_pos rfl, if_neg (by decide), if_neg h]
    have hq : a / 2 ^ j ≤ a := Nat.div_le_self _ _
    generalize a / 2 ^ j = q at *
    have hqu : inR .u64 (q : Int) := by simp only [inR, IntKind.min, IntKind.max, IntKind.signed, IntKind.bits]; simp; omega
    have hr : inR .u64 (((2 * (q / 2) + 1 : Nat) : Int)) := by simp only [inR, IntKind.min, IntKind.max, IntKind.signed, IntKind.bits]; simp; omega
    refine eq_of_bits 64 (bitsI_range rfl _ _) (by rw [← u64_id hr]; exact emod_range _ _) fun i hi => ?_
    rw [ibit_or rfl _ _ hi]
    cases i with
    | zero =>
      have e1 : ibit (1 : Int) 0 = 1 := by decide
      have e2 : ibit (((2 * (q / 2) + 1 : Nat) : Int)) 0 = 1 := by unfold ibit; omega
      rw [e1, e2]
      omega
    | succ i =>
      have e1 : ibit (1 : Int) (i + 1) = 0 := by
        have := pow_bit 0 (i + 1)
        rw [if_neg (by omega)] at this
        simpa using this
      have e2 : ibit (((2 * (q / 2) + 1 : Nat) : Int)) (i + 1) = ibit (q : Int) (i + 1) := by
        rw [ibit_nat, ibit_nat]
        rw [Nat.testBit_succ, Nat.testBit_succ]
        have : (2 * (q / 2) + 1) / 2 = q / 2 := by omega
        rw [this]
      rw [e1, e2]
      omega

end Sx
end Go.Proofs.YtfdggebddcoeeaaGreatDoor
end

/-
  Names for what the program's helpers answer: Len64, LeadingZeros64, Mul64, parts, jam, round.
-/
set_option maxRecDepth 100000
noncomputable section
namespace Go.Proofs.YtfdggebddcoeeaaGreatDoor
namespace Sx
open Go Go.RowKit

def magC (n : Nat) : Nat := cond (Nat.beq n 32) 70124 70253
def plcC (n : Nat) : Nat := cond (Nat.beq n 32) 70312 70412
def rngC (n : Nat) (more : Bool) : Nat := cond (Nat.beq n 32) (cond more 80331 80131) (cond more 80463 80263)
def F1G (c : Nat) (x : Int) : Int :=
  if c = 70007 then (lenN x.toNat : Nat)
  else if c = 70124 then (Fx.magOf (fmtOf 32) (rgI 32 x) : Nat)
  else if c = 70253 then (Fx.magOf (fmtOf 64) (rgI 64 x) : Nat)
  else if c = 70312 then Fx.placeOf (fmtOf 32) (rgI 32 x) + 1200
  else if c = 70412 then Fx.placeOf (fmtOf 64) (rgI 64 x) + 1200
  else 0
def F2G (c : Nat) (x y : Int) : Int :=
  if c = 80064 then (Fx.jam x.toNat (min y.toNat 63) : Nat)
  else if c = 80164 then (x.toNat * y.toNat / 18446744073709551616 : Nat)
  else if c = 80264 then (x.toNat * y.toNat % 18446744073709551616 : Nat)
  else if c = 80131 then (Fx.rung (fmtOf 32) x.toNat y : Nat)
  else if c = 80331 then (Fx.rung (fmtOf 32) (2 * x.toNat + 1) (y - 1) : Nat)
  else if c = 80263 then (Fx.rung (fmtOf 64) x.toNat y : Nat)
  else if c = 80463 then (Fx.rung (fmtOf 64) (2 * x.toNat + 1) (y - 1) : Nat)
  else 0
def EG (va : Nat → Int) : Env := ⟨F1G, F2G, va⟩
section
variable {va : Nat → Int} {G : Gl}
theorem u64_nat {x : Int} (h : inR .u64 x) : ∃ m : Nat, x = m ∧ m < 2 ^ 64 := by
  have hr := emod_range x 64
  rw [u64_id h] at hr
  exact ⟨x.toNat, by omega, by omega⟩
theorem nat_u64 {m : Nat} (h : m < 2 ^ 64) : inR .u64 (m : Int) := by simp only [inR, IntKind.min, IntKind.max, IntKind.signed, IntKind.bits]; simp; omega
theorem small_i64 {x : Int} (h1 : -(2 : Int) ^ 63 ≤ x) (h2 : x < 2 ^ 63) : inR .i64 x := by simp only [inR, IntKind.min, IntKind.max, IntKind.signed, IntKind.bits]; simp; omega
theorem lenG_den {a : SE} {m : Nat} (h : a.den (EG va) = m) (hm : m < 2 ^ 64) : (lenE a).den (EG va) = (lenN m : Nat) := by
  have h1 := lenN_le hm
  show F1G 70007 (a.den (EG va)) % 2 ^ 7 = _
  unfold F1G
  rw [if_pos rfl, h, Int.toNat_natCast]
  omega
theorem lenG_ok : SmOk (EG va) Tryz.prog G 148 smLen := by
  intro args hp nx v hp' nx' hv loc w hr hg hw
  unfold smLen at hv
  split at hv
  · rename_i a
    cases hv
    obtain ⟨wa, _⟩ := hw
    obtain ⟨m, e1, hm⟩ := u64_nat wa
    have hl := lenN_le hm
    refine cx_of_calls okP Tryz.func148 (by kernel_rfl) ((Tryz.len64 (a.den (EG va)) w (by omega) (by omega)).mono fun e w' ⟨h1, h2⟩ => ?_)
    subst h1 h2
    refine ⟨loc, ?_, step_of_below hr (Below.refl _ _) ?_⟩
    · simp only [SV.den]
      rw [lenG_den e1 hm, e1, Int.toNat_natCast, bitLen_eq hm]
    · simp only [SV.wf]
      rw [lenG_den e1 hm]
      exact small_i64 (by omega) (by omega)
  · cases hv
/-- LeadingZeros64 -/
def smClz : Sm := fun a hp nx => match a with
  | [.int .u64 a] => some (.int .i64 (.sub (.lit 64) (lenE a)), hp, nx)
  | _ => none
theorem clzG_ok : SmOk (EG va) Tryz.prog G 200 smClz := by
  intro args hp nx v hp' nx' hv loc w hr hg hw
  unfold smClz at hv
  split at hv
  · rename_i a
    cases hv
    obtain ⟨wa, _⟩ := hw
    obtain ⟨m, e1, hm⟩ := u64_nat wa
    have hl := lenN_le hm
    have hd : (SE.sub (.lit 64) (lenE a)).den (EG va) = 64 - (lenN m : Int) := by
      show 64 - (lenE a).den (EG va) = _
      rw [lenG_den e1 hm]
    refine cx_of_calls okP Tryz.func200 (by kernel_rfl) ((Tryz.clz64 (a.den (EG va)) w (by omega) (by omega)).mono fun e w' ⟨h1, h2⟩ => ?_)
    subst h1 h2
    refine ⟨loc, ?_, step_of_below hr (Below.refl _ _) ?_⟩
    · simp only [SV.den]
      rw [hd, e1, Int.toNat_natCast, bitLen_eq hm]
    · simp only [SV.wf]
      rw [hd]
      exact small_i64 (by omega) (by omega)
  · cases hv
/-- Mul64 -/
def hiE (a b : SE) : SE := .f2 80164 a b
def loE (a b : SE) : SE := .f2 80264 a b
def smMul : Sm := fun a hp nx => match a with
  | [.int .u64 a, .int .u64 b] => some (.tup [.int .u64 (hiE a b), .int .u64 (loE a b)], hp, nx)
  | _ => none
theorem hi_den {a b : SE} {x y : Nat} (ha : a.den (EG va) = x) (hb : b.den (EG va) = y) (hx : x < 2 ^ 64) (hy : y < 2 ^ 64) : (hiE a b).den (EG va) = (x * y / 18446744073709551616 : Nat) := by
  have h : x * y / 18446744073709551616 < 2 ^ 64 := by
    rw [Nat.div_lt_iff_lt_mul (by decide)]
    exact Nat.mul_lt_mul'' hx hy
  show F2G 80164 (a.den (EG va)) (b.den (EG va)) % 2 ^ 64 = _
  unfold F2G
  rw [if_neg (by decide), if_pos rfl, ha, hb, Int.toNat_natCast, Int.toNat_natCast]
  exact u64_id (nat_u64 h)
theorem lo_den {a b : SE} {x y : Nat} (ha : a.den (EG va) = x) (hb : b.den (EG va) = y) : (loE a b).den (EG va) = (x * y % 18446744073709551616 : Nat) := by
  show F2G 80264 (a.den (EG va)) (b.den (EG va)) % 2 ^ 64 = _
  unfold F2G
  rw [if_neg (by decide), if_neg (by decide), if_pos rfl, ha, hb, Int.toNat_natCast, Int.toNat_natCast]
  exact u64_id (nat_u64 (Nat.mod_lt _ (by decide)))
theorem mulG_ok : SmOk (EG va) Tryz.prog G 187 smMul := by
  intro args hp nx v hp' nx' hv loc w hr hg hw
  unfold smMul at hv
  split at hv
  · rename_i a b
    cases hv
    obtain ⟨wa, wb, _⟩ := hw
    obtain ⟨x, e1, hx⟩ := u64_nat wa
    obtain ⟨y, e2, hy⟩ := u64_nat wb
    have hh : x * y / 18446744073709551616 < 2 ^ 64 := by
      rw [Nat.div_lt_iff_lt_mul (by decide)]
      exact Nat.mul_lt_mul'' hx hy
    have hc := Tryz.mul64 x y hx hy w
    rw [← e1, ← e2] at hc
    refine cx_of_calls okP Tryz.func187 (by kernel_rfl) (hc.mono fun e w' ⟨h1, h2⟩ => ?_)
    subst h1 h2
    refine ⟨loc, ?_, step_of_below hr (Below.refl _ _) ⟨?_, ?_, trivial⟩⟩
    · simp only [SV.den, denL]
      rw [hi_den e1 e2 hx hy, lo_den e1 e2]
    · simp only [SV.wf]
      rw [hi_den e1 e2 hx hy]
      exact nat_u64 hh
    · simp only [SV.wf]
      rw [lo_den e1 e2]
      exact nat_u64 (Nat.mod_lt _ (by decide))
  · cases hv
end

end Sx
end Go.Proofs.YtfdggebddcoeeaaGreatDoor
end

/-
  Names for what the program's helpers answer: parts, jam, round.
-/
set_option maxRecDepth 100000
noncomputable section
namespace Go.Proofs.YtfdggebddcoeeaaGreatDoor
namespace Sx
open Go Go.RowKit

def fmtN (v : SV) : Nat := match v with
  | .agg [.int .i64 (.lit (.ofNat p)), .int .i64 (.lit (.ofNat q))] => cond (and (Nat.beq p 23) (Nat.beq q 8)) 32 (cond (and (Nat.beq p 52) (Nat.beq q 11)) 64 0)
  | _ => 0
theorem fmtN_ok {v : SV} {n : Nat} (h : fmtN v = n) (h0 : n ≠ 0) (E : Env) (loc : Nat → Nat × Nat) : (n = 32 ∨ n = 64) ∧ v.den E loc = fmtVal n := by
  unfold fmtN at h
  split at h
  · rename_i p q
    cases h1 : and (Nat.beq p 23) (Nat.beq q 8) <;> rw [h1] at h
    · cases h2 : and (Nat.beq p 52) (Nat.beq q 11) <;> rw [h2] at h
      · exact absurd h.symm h0
      · obtain ⟨a1, a2⟩ := (Bool.and_eq_true _ _).mp h2
        have e1 := Nat.eq_of_beq_eq_true a1
        have e2 := Nat.eq_of_beq_eq_true a2
        subst e1 e2
        simp only [cond_true, cond_false] at h
        subst h
        exact ⟨.inr rfl, rfl⟩
    · obtain ⟨a1, a2⟩ := (Bool.and_eq_true _ _).mp h1
      have e1 := Nat.eq_of_beq_eq_true a1
      have e2 := Nat.eq_of_beq_eq_true a2
      subst e1 e2
      simp only [cond_true] at h
      subst h
      exact ⟨.inl rfl, rfl⟩
  · exact absurd h.symm h0
section
variable {va : Nat → Int} {G : Gl}
def magE (n : Nat) (a : SE) : SE := .f1 (magC n) a
def plcE (n : Nat) (a : SE) : SE := .sub (.f1 (plcC n) a) (.lit 1200)
theorem rg_lt {n : Nat} (hn : n = 32 ∨ n = 64) (x : Int) : rgI n x < (if n = 32 then 2 ^ 31 else 2 ^ 63) := by
  have h := emod_range x (n - 1)
  unfold rgI
  rcases hn with rfl | rfl
  · rw [if_pos rfl]; omega
  · rw [if_neg (by decide)]; omega
theorem magE_den {n : Nat} (hn : n = 32 ∨ n = 64) (a : SE) : (magE n a).den (EG va) = (Fx.magOf (fmtOf n) (rgI n (a.den (EG va))) : Nat) := by
  have hm : Fx.magOf (fmtOf n) (rgI n (a.den (EG va))) < 2 ^ (fb n + 1) := by
    have h1 : (fmtOf n).binade = 2 ^ fb n := by unfold Ieee.Format.binade; rw [(fmt_nums hn).1]
    unfold Fx.magOf
    rw [h1, Nat.pow_succ]
    have := Nat.mod_lt (rgI n (a.den (EG va))) (Nat.two_pow_pos (fb n))
    split <;> omega
  rcases hn with rfl | rfl
  · show F1G 70124 (a.den (EG va)) % 2 ^ 24 = _
    unfold F1G
    rw [if_neg (by decide), if_pos rfl]
    have hm' : Fx.magOf (fmtOf 32) (rgI 32 (a.den (EG va))) < 2 ^ 24 := hm
    omega
  · show F1G 70253 (a.den (EG va)) % 2 ^ 53 = _
    unfold F1G
    rw [if_neg (by decide), if_neg (by decide), if_pos rfl]
    have hm' : Fx.magOf (fmtOf 64) (rgI 64 (a.den (EG va))) < 2 ^ 53 := hm
    omega
theorem plc_range {n : Nat} (hn : n = 32 ∨ n = 64) (x : Int) : -1200 < Fx.placeOf (fmtOf n) (rgI n x) ∧ Fx.placeOf (fmtOf n) (rgI n x) < 2896 := by
  have h1 := rg_lt hn x
  have h2 := (fmt_nums hn).2.1
  have h3 : (fmtOf n).binade = 2 ^ fb n := by unfold Ieee.Format.binade; rw [(fmt_nums hn).1]
  unfold Fx.placeOf
  rw [h2, h3]
  generalize rgI n x = r at *
  rcases hn with rfl | rfl
  · have e1 : lst 32 = -149 := rfl
    have e2 : fb 32 = 23 := rfl
    rw [e1, e2]
    rw [if_pos rfl] at h1
    split <;> omega
  · have e1 : lst 64 = -1074 := rfl
    have e2 : fb 64 = 52 := rfl
    rw [e1, e2]
    rw [if_neg (by decide)] at h1
    split <;> omega
theorem plcE_den {n : Nat} (hn : n = 32 ∨ n = 64) (a : SE) : (plcE n a).den (EG va) = Fx.placeOf (fmtOf n) (rgI n (a.den (EG va))) := by
  have h := plc_range hn (a.den (EG va))
  rcases hn with rfl | rfl
  · show F1G 70312 (a.den (EG va)) % 2 ^ 12 - 1200 = _
    unfold F1G
    rw [if_neg (by decide), if_neg (by decide), if_neg (by decide), if_pos rfl]
    omega
  · show F1G 70412 (a.den (EG va)) % 2 ^ 12 - 1200 = _
    unfold F1G
    rw [if_neg (by decide), if_neg (by decide), if_neg (by decide), if_neg (by decide), if_pos rfl]
    omega
def smParts : Sm := fun a hp nx => match a with
  | [f, .int .u64 a] => cond (Nat.beq (fmtN f) 0) none (some (.tup [.int .u64 (magE (fmtN f) a), .int .i64 (plcE (fmtN f) a)], hp, nx))
  | _ => none
theorem partsG_ok : SmOk (EG va) Tryz.prog G 199 smParts := by
  intro args hp nx v hp' nx' hv loc w hr hg hw
  unfold smParts at hv
  split at hv
  · rename_i f a
    cases h1 : Nat.beq (fmtN f) 0 <;> rw [h1] at hv <;> cases hv
    have h0 : fmtN f ≠ 0 := by intro h; rw [h] at h1; cases h1
    obtain ⟨hn, hf⟩ := fmtN_ok rfl h0 (EG va) loc
    obtain ⟨_, wa, _⟩ := hw
    have hp := plc_range hn (a.den (EG va))
    have hden : (denL (EG va) loc [f, .int .u64 a]).toArray = #[fmtVal (fmtN f), .int .u64 (a.den (EG va))] := by
      simp only [denL, SV.den, hf]
    rw [hden]
    have hm : inR .u64 ((Fx.magOf (fmtOf (fmtN f)) (rgI (fmtN f) (a.den (EG va))) : Nat) : Int) := by
      have h2 := magE_den (va := va) hn a
      rw [← h2]
      generalize fmtN f = n at *
      rcases hn with rfl | rfl
      · have := emod_range (F1G 70124 (a.den (EG va))) 24
        show inR .u64 (F1G 70124 (a.den (EG va)) % 2 ^ 24)
        simp only [inR, IntKind.min, IntKind.max, IntKind.signed, IntKind.bits]; simp; omega
      · have := emod_range (F1G 70253 (a.den (EG va))) 53
        show inR .u64 (F1G 70253 (a.den (EG va)) % 2 ^ 53)
        simp only [inR, IntKind.min, IntKind.max, IntKind.signed, IntKind.bits]; simp; omega
    refine cx_mono (parts_cx hn wa w) fun u w' ⟨e1, e2⟩ => ⟨loc, ?_, step_of_below hr e2 ⟨?_, ?_, trivial⟩⟩
    · rw [e1]
      simp only [SV.den, denL]
      rw [magE_den hn, plcE_den hn]
    · simp only [SV.wf]
      rw [magE_den hn]
      exact hm
    · simp only [SV.wf]
      rw [plcE_den hn]
      exact small_i64 (by omega) (by omega)
  · cases hv
def jamE (a b : SE) : SE := .f2 80064 a b
theorem jam_lt {m j : Nat} (h : m < 2 ^ 64) : Fx.jam m j < 2 ^ 64 := by
  have h1 : m / 2 ^ j ≤ m := Nat.div_le_self _ _
  unfold Fx.jam
  split <;> omega
theorem jamE_den {a b : SE} {m : Nat} (h : a.den (EG va) = m) (hm : m < 2 ^ 64) : (jamE a b).den (EG va) = (Fx.jam m (min (b.den (EG va)).toNat 63) : Nat) := by
  show F2G 80064 (a.den (EG va)) (b.den (EG va)) % 2 ^ 64 = _
  unfold F2G
  rw [if_pos rfl, h, Int.toNat_natCast]
  exact u64_id (nat_u64 (jam_lt hm))
def smJam : Sm := fun a hp nx => match a with
  | [.int .u64 a, .int .i64 b] => cond (leO (ub b) 32) (some (.int .u64 (jamE a b), hp, nx)) none
  | _ => none
theorem jamG_ok : SmOk (EG va) Tryz.prog G 202 smJam := by
  intro args hp nx v hp' nx' hv loc w hr hg hw
  unfold smJam at hv
  split at hv
  · rename_i a b
    cases h1 : leO (ub b) 32 <;> rw [h1] at hv <;> cases hv
    obtain ⟨wa, wb, _⟩ := hw
    obtain ⟨m, e1, hm⟩ := u64_nat wa
    have hb := leO_ok (EG va) h1
    have hden : (denL (EG va) loc [.int .u64 a, .int .i64 b]).toArray = #[.int .u64 (m : Int), .int .i64 (b.den (EG va))] := by
      simp only [denL, SV.den, e1]
    rw [hden]
    refine cx_mono (jam_cx hm wb hb.1 w) fun u w' ⟨e2, e3⟩ => ⟨loc, ?_, step_of_below hr e3 ?_⟩
    · rw [e2]
      simp only [SV.den]
      rw [jamE_den e1 hm]
    · simp only [SV.wf]
      rw [jamE_den e1 hm]
      exact nat_u64 (jam_lt hm)
  · cases hv
end

end Sx
end Go.Proofs.YtfdggebddcoeeaaGreatDoor
end

/-
  A name for what the program's rounding answers.
-/
set_option maxRecDepth 100000
noncomputable section
namespace Go.Proofs.YtfdggebddcoeeaaGreatDoor
namespace Sx
open Go Go.RowKit

def eOK (e : SE) : Bool := match e with
  | .lit z => match z with
    | .ofNat c => Nat.ble c 5000
    | _ => false
  | .sub x y => match y with
    | .lit z => match z with
      | .ofNat c => cond (Nat.beq c 5000) (leO (ub x) 13) false
      | _ => false
    | _ => false
  | _ => false
def mOK (m : SE) : Bool := match m with
  | .add x y => match y with
    | .lit z => match z with
      | .ofNat c => cond (Nat.beq c 288230376151711744) (leO (ub x) 64) false
      | _ => false
    | _ => false
  | _ => false
theorem eOK_ok {e : SE} (h : eOK e = true) (E : Env) : -5000 ≤ e.den E ∧ e.den E ≤ 5000 := by
  unfold eOK at h
  repeat' (split at h)
  all_goals first
    | (cases h; done)
    | (rename_i c
       have h1 := Nat.le_of_ble_eq_true h
       show (-5000 : Int) ≤ ((c : Nat) : Int) ∧ ((c : Nat) : Int) ≤ 5000
       omega)
    | (rename_i x _ _ c
       cases h1 : Nat.beq c 5000 <;> rw [h1] at h
       · cases h
       · have h2 := leO_ok E h
         have h3 := Nat.eq_of_beq_eq_true h1
         subst h3
         show -5000 ≤ x.den E - 5000 ∧ x.den E - 5000 ≤ 5000
         omega)
theorem mOK_ok {e : SE} (h : mOK e = true) (E : Env) : 2 ^ 58 ≤ e.den E := by
  unfold mOK at h
  repeat' (split at h)
  all_goals first
    | (cases h; done)
    | (rename_i x _ _ c
       cases h1 : Nat.beq c 288230376151711744 <;> rw [h1] at h
       · cases h
       · have h2 := leO_ok E h
         have h3 := Nat.eq_of_beq_eq_true h1
         subst h3
         show 2 ^ 58 ≤ x.den E + 288230376151711744
         omega)
def rngE (n : Nat) (more : Bool) (m e : SE) : SE := .f2 (rngC n more) m e
def sgE (n : Nat) (s r : SE) : SE := .ite s (.add r (.lit (.ofNat (2 ^ (n - 1))))) r
/-- the rung of the rounding -/
def rngI (n : Nat) (more : Bool) (m : Nat) (e : Int) : Nat := cond more (Fx.rung (fmtOf n) (2 * m + 1) (e - 1)) (Fx.rung (fmtOf n) m e)
section
variable {va : Nat → Int} {G : Gl}
theorem rung_le (f : Ieee.Format) (m : Nat) (e : Int) : Fx.rung f m e ≤ f.infRung := by
  unfold Fx.rung
  split
  · omega
  · exact Nat.min_le_right _ _
theorem inf_lt {n : Nat} (hn : n = 32 ∨ n = 64) : (fmtOf n).infRung < 2 ^ (n - 1) := by rcases hn with rfl | rfl <;> decide
theorem rngI_lt {n : Nat} (hn : n = 32 ∨ n = 64) (more : Bool) (m : Nat) (e : Int) : rngI n more m e < 2 ^ (n - 1) := by
  unfold rngI
  cases more
  · exact Nat.lt_of_le_of_lt (rung_le _ _ _) (inf_lt hn)
  · exact Nat.lt_of_le_of_lt (rung_le _ _ _) (inf_lt hn)
theorem den_f2 (c : Nat) (a b : SE) : (SE.f2 c a b).den (EG va) = F2G c (a.den (EG va)) (b.den (EG va)) % 2 ^ (c % 100) := rfl
theorem F2G_a (m : Nat) (y : Int) : F2G 80131 m y = (Fx.rung (fmtOf 32) m y : Nat) := by
  unfold F2G
  rw [if_neg (by decide), if_neg (by decide), if_neg (by decide), if_pos rfl, Int.toNat_natCast]
theorem F2G_b (m : Nat) (y : Int) : F2G 80331 m y = (Fx.rung (fmtOf 32) (2 * m + 1) (y - 1) : Nat) := by
  unfold F2G
  rw [if_neg (by decide), if_neg (by decide), if_neg (by decide), if_neg (by decide), if_pos rfl, Int.toNat_natCast]
theorem F2G_c (m : Nat) (y : Int) : F2G 80263 m y = (Fx.rung (fmtOf 64) m y : Nat) := by
  unfold F2G
  rw [if_neg (by decide), if_neg (by decide), if_neg (by decide), if_neg (by decide), if_neg (by decide), if_pos rfl, Int.toNat_natCast]
theorem F2G_d (m : Nat) (y : Int) : F2G 80463 m y = (Fx.rung (fmtOf 64) (2 * m + 1) (y - 1) : Nat) := by
  unfold F2G
  rw [if_neg (by decide), if_neg (by decide), if_neg (by decide), if_neg (by decide), if_neg (by decide), if_neg (by decide), if_pos rfl, Int.toNat_natCast]
theorem rngI_f (n m : Nat) (e : Int) : rngI n false m e = Fx.rung (fmtOf n) m e := rfl
theorem rngI_t (n m : Nat) (e : Int) : rngI n true m e = Fx.rung (fmtOf n) (2 * m + 1) (e - 1) := rfl
theorem nat_md {k : Nat} {r : Nat} (h : r < 2 ^ k) : (r : Int) % 2 ^ k = r := by
  refine emod_small ⟨by omega, ?_⟩
  have : ((2 ^ k : Nat) : Int) = 2 ^ k := by push_cast; rfl
  omega
theorem rngE_den {n : Nat} (hn : n = 32 ∨ n = 64) (more : Bool) {a b : SE} {m : Nat} (h : a.den (EG va) = m) : (rngE n more a b).den (EG va) = (rngI n more m (b.den (EG va)) : Nat) := by
  have hl := rngI_lt hn more m (b.den (EG va))
  have c1 : rngC 32 false = 80131 := rfl
  have c2 : rngC 32 true = 80331 := rfl
  have c3 : rngC 64 false = 80263 := rfl
  have c4 : rngC 64 true = 80463 := rfl
  have d1 : 80131 % 100 = 32 - 1 := rfl
  have d2 : 80331 % 100 = 32 - 1 := rfl
  have d3 : 80263 % 100 = 64 - 1 := rfl
  have d4 : 80463 % 100 = 64 - 1 := rfl
  unfold rngE
  rw [den_f2, h]
  generalize b.den (EG va) = y at *
  rcases hn with rfl | rfl <;> cases more
  · rw [c1, d1, F2G_a, rngI_f]; rw [rngI_f] at hl; exact nat_md hl
  · rw [c2, d2, F2G_b, rngI_t]; rw [rngI_t] at hl; exact nat_md hl
  · rw [c3, d3, F2G_c, rngI_f]; rw [rngI_f] at hl; exact nat_md hl
  · rw [c4, d4, F2G_d, rngI_t]; rw [rngI_t] at hl; exact nat_md hl
theorem sgE_den {n : Nat} (hn : n = 32 ∨ n = 64) {s r : SE} {x : Nat} (h : r.den (EG va) = x) : (sgE n s r).den (EG va) = ((fmtOf n).word (decide (s.den (EG va) ≠ 0)) x : Nat) := by
  unfold Ieee.Format.word
  rw [fmt_sign hn]
  show (if s.den (EG va) = 0 then r.den (EG va) else r.den (EG va) + ((2 ^ (n - 1) : Nat) : Int)) = _
  rw [h]
  by_cases h1 : s.den (EG va) = 0
  · simp [h1]
  · rw [if_neg h1, decide_eq_true h1, if_pos rfl]
    omega
def smRnd : Sm := fun a hp nx => match a with
  | [f, .bool s, .int .u64 m, .int .i64 e, .bool b] => match b with
    | .lit z => cond (Nat.beq (fmtN f) 0) none (cond (eOK e) (cond (intEq z 0) (some (.int .u64 (sgE (fmtN f) s (rngE (fmtN f) false m e)), hp, nx)) (cond (mOK m) (some (.int .u64 (sgE (fmtN f) s (rngE (fmtN f) true m e)), hp, nx)) none)) none)
    | _ => none
  | _ => none
theorem word_u64 {n : Nat} (hn : n = 32 ∨ n = 64) (s : Bool) {x : Nat} (h : x < 2 ^ (n - 1)) : inR .u64 (((fmtOf n).word s x : Nat) : Int) := by
  refine nat_u64 ?_
  unfold Ieee.Format.word
  rw [fmt_sign hn]
  rcases hn with rfl | rfl
  · have h' : x < 2 ^ 31 := h
    show (if s = true then 2 ^ 31 + x else x) < 2 ^ 64
    split <;> omega
  · have h' : x < 2 ^ 63 := h
    show (if s = true then 2 ^ 63 + x else x) < 2 ^ 64
    split <;> omega
theorem rndG_ok : SmOk (EG va) Tryz.prog G 201 smRnd := by
  intro args hp nx v hp' nx' hv loc w hr hg hw
  unfold smRnd at hv
  split at hv
  · split at hv
    · rename_i f s m e _ z
      cases h1 : Nat.beq (fmtN f) 0 <;> rw [h1] at hv <;> try (cases hv; done)
      simp only [cond_false] at hv
      cases h2 : eOK e <;> rw [h2] at hv <;> try (cases hv; done)
      simp only [cond_true] at hv
      have h0 : fmtN f ≠ 0 := by intro h; rw [h] at h1; cases h1
      obtain ⟨hn, hf⟩ := fmtN_ok rfl h0 (EG va) loc
      obtain ⟨_, _, wm, we, _⟩ := hw
      obtain ⟨M, e1, hM⟩ := u64_nat wm
      obtain ⟨he1, he2⟩ := eOK_ok h2 (EG va)
      have key : ∀ more : Bool, decide (z ≠ 0) = more → Rounds (fmtN f) (decide (s.den (EG va) ≠ 0)) M (e.den (EG va)) more (rngI (fmtN f) more M (e.den (EG va))) →
          CX Tryz.prog 201 (denL (EG va) loc [f, .bool s, .int .u64 m, .int .i64 e, .bool (.lit z)]).toArray w (fun u w' => ∃ loc', u = (SV.int .u64 (sgE (fmtN f) s (rngE (fmtN f) more m e))).den (EG va) loc' ∧ Step (EG va) loc Tryz.prog w.heap.size nx nx nx hp w (.int .u64 (sgE (fmtN f) s (rngE (fmtN f) more m e))) loc' w') := by
        intro more hz hR
        have hden : (denL (EG va) loc [f, .bool s, .int .u64 m, .int .i64 e, .bool (.lit z)]).toArray = #[fmtVal (fmtN f), .bool (decide (s.den (EG va) ≠ 0)), .int .u64 (M : Int), .int .i64 (e.den (EG va)), .bool more] := by
          simp only [denL, SV.den, hf, e1]
          rw [← hz]
          rfl
        rw [hden]
        refine cx_mono (hR w) fun u w' ⟨e2, e3⟩ => ⟨loc, ?_, step_of_below hr e3 ?_⟩
        · rw [e2]
          simp only [SV.den]
          rw [sgE_den hn (rngE_den hn more e1)]
        · simp only [SV.wf]
          rw [sgE_den hn (rngE_den hn more e1)]
          exact word_u64 hn _ (rngI_lt hn _ _ _)
      cases h3 : intEq z 0 <;> rw [h3] at hv
      · simp only [cond_false] at hv
        cases h4 : mOK m <;> rw [h4] at hv <;> cases hv
        have hz : z ≠ 0 := by intro h; rw [(intEq_iff z 0).2 h] at h3; cases h3
        refine key true (decide_eq_true hz) (round_more hn _ hM ?_ he1 he2)
        have := mOK_ok h4 (EG va)
        omega
      · cases hv
        refine key false ?_ (round_plain hn _ hM he1 he2)
        rw [(intEq_iff z 0).1 h3]
        rfl
    · cases hv
  · cases hv
def sumsG : Tr Sm := ((((((sums0.set 148 smLen).set 200 smClz).set 187 smMul).set 199 smParts).set 202 smJam).set 201 smRnd)
theorem sumsG_ok : SumsOk (EG va) Tryz.prog G sumsG := by
  intro f s h
  unfold sumsG at h
  rcases Tr.get_set h with ⟨rfl, rfl⟩ | ⟨_, h⟩
  · exact rndG_ok
  rcases Tr.get_set h with ⟨rfl, rfl⟩ | ⟨_, h⟩
  · exact jamG_ok
  rcases Tr.get_set h with ⟨rfl, rfl⟩ | ⟨_, h⟩
  · exact partsG_ok
  rcases Tr.get_set h with ⟨rfl, rfl⟩ | ⟨_, h⟩
  · exact mulG_ok
  rcases Tr.get_set h with ⟨rfl, rfl⟩ | ⟨_, h⟩
  · exact clzG_ok
  rcases Tr.get_set h with ⟨rfl, rfl⟩ | ⟨_, h⟩
  · exact lenG_ok
  · exact sums0_ok f s h
end

end Sx
end Go.Proofs.YtfdggebddcoeeaaGreatDoor
end

/-
  A product of two words, cut to one word with its last bits jammed, rounds as the whole product.
-/
namespace Go.Proofs.YtfdggebddcoeeaaGreatDoor
namespace Fx
open Ieee
theorem jam_split {P b : Nat} (h1 : 1 ≤ b) (h2 : b ≤ 63) : jam (P % 2 ^ 64) b + P / 2 ^ 64 * 2 ^ (64 - b) = jam P b := by
  have hb : 2 ^ 64 = 2 ^ b * 2 ^ (64 - b) := by rw [← pow_split]; congr 1; omega
  have hc : 2 ^ (64 - b) = 2 * 2 ^ (63 - b) := by rw [show 64 - b = (63 - b) + 1 by omega, Nat.pow_succ]; omega
  have hp := Nat.two_pow_pos b
  have hdm := Nat.div_add_mod P (2 ^ 64)
  have e1 : P / 2 ^ b = P / 2 ^ 64 * 2 ^ (64 - b) + P % 2 ^ 64 / 2 ^ b := by
    have : P = P % 2 ^ 64 + 2 ^ b * (P / 2 ^ 64 * 2 ^ (64 - b)) := by
      have e : 2 ^ b * (P / 2 ^ 64 * 2 ^ (64 - b)) = 2 ^ 64 * (P / 2 ^ 64) := by
        rw [hb, Nat.mul_assoc, Nat.mul_comm (P / _) _]
      rw [e]
      omega
    conv => lhs; rw [this]
    rw [Nat.add_mul_div_left _ _ hp, Nat.add_comm]
  have e2 : P % 2 ^ 64 % 2 ^ b = P % 2 ^ b := Nat.mod_mod_of_dvd _ ⟨2 ^ (64 - b), hb⟩
  unfold jam
  rw [e1, e2, hc]
  generalize P / 2 ^ 64 = hi
  generalize P % 2 ^ 64 / 2 ^ b = l
  generalize 2 ^ (63 - b) = t
  have e3 : hi * (2 * t) = 2 * (hi * t) := by rw [← Nat.mul_assoc, Nat.mul_comm hi 2, Nat.mul_assoc]
  rw [e3]
  generalize hi * t = u
  split <;> omega
end Fx
namespace Sx
open Fx
/-- the product's word -/
def mulZ (P : Nat) : Nat := if 0 < lenN (P / 2 ^ 64) then jam (P % 2 ^ 64) (lenN (P / 2 ^ 64)) + P / 2 ^ 64 * 2 ^ (64 - lenN (P / 2 ^ 64)) else P % 2 ^ 64
theorem rung_mulZ (f : Ieee.Format) (hf : f.fractionBits + 2 ≤ 63) {P : Nat} (hP : P / 2 ^ 64 < 2 ^ 63) (p : Int) : rung f (mulZ P) (p + (lenN (P / 2 ^ 64) : Nat)) = rung f P p := by
  unfold mulZ
  by_cases h : P / 2 ^ 64 = 0
  · have h0 : lenN (P / 2 ^ 64) = 0 := by unfold lenN; rw [if_pos h]
    rw [h0, if_neg (by omega)]
    have : P % 2 ^ 64 = P := by omega
    rw [this]
    simp
  · have hb := log2_bounds h
    have hl : lenN (P / 2 ^ 64) = (P / 2 ^ 64).log2 + 1 := by unfold lenN; rw [if_neg h]
    have h63 : (P / 2 ^ 64).log2 < 63 := (Nat.pow_lt_pow_iff_right (by decide)).1 (Nat.lt_of_le_of_lt hb.1 hP)
    rw [hl, if_pos (by omega), jam_split (by omega) (by omega)]
    refine rung_jam f P _ p (Nat.le_trans (Nat.pow_le_pow_right (by decide) hf) ?_)
    rw [Nat.le_div_iff_mul_le (Nat.two_pow_pos _), ← pow_split]
    have e : 2 ^ (63 + ((P / 2 ^ 64).log2 + 1)) = 2 ^ (P / 2 ^ 64).log2 * 2 ^ 64 := by rw [← pow_split]; congr 1; omega
    rw [e]
    exact Nat.le_trans (Nat.mul_le_mul_right _ hb.1) (Nat.div_mul_le_self _ _)
end Sx
end Go.Proofs.YtfdggebddcoeeaaGreatDoor
