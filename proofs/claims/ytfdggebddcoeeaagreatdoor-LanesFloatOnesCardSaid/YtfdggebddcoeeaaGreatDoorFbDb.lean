/-
  The program's quotient of two floats that are no NaN.
-/
import Derived.Test.YtfdggebddcoeeaaGreatDoorFbDa
import Derived.Test.YtfdggebddcoeeaaGreatDoorFbPart6
import Derived.Test.YtfdggebddcoeeaaGreatDoorFbPart5
set_option linter.unusedVariables false
set_option linter.unusedSimpArgs false
set_option maxRecDepth 100000
noncomputable section
namespace Go.Proofs.YtfdggebddcoeeaaGreatDoor
namespace Sx
open Go Go.RowKit

theorem sumsG_add {va : Nat → Int} {G : Gl} {g : Nat} {sm : Sm} (h : SmOk (EG va) Tryz.prog G g sm) : SumsOk (EG va) Tryz.prog G (sumsG.set g sm) := by
  intro f s hs
  rcases Tr.get_set hs with ⟨rfl, rfl⟩ | ⟨_, hs⟩
  · exact h
  · exact sumsG_ok f s hs
def vaD (a b M0 : Nat) (e0 : Int) (K0 : Nat) (d0 : Int) (M1 : Nat) (e1 : Int) (q r : Nat) (ef : Int) : Nat → Int
  | 0 => a
  | 1 => b
  | 2 => M0
  | 3 => e0 + 5000
  | 4 => K0
  | 5 => d0 + 5000
  | 6 => M1
  | 7 => e1 + 5000
  | 8 => (q : Int) - 288230376151711744
  | 9 => r
  | 10 => ef + 5000
  | _ => 0
theorem len_of {m : Nat} (h : m ≠ 0) : lenN m = m.log2 + 1 := by unfold lenN; rw [if_neg h]
/-- a number moved to the top -/
theorem tall_rng {m : Nat} (h : m ≠ 0) (hm : m < 2 ^ 64) : 2 ^ 63 ≤ m * 2 ^ (64 - lenN m) ∧ m * 2 ^ (64 - lenN m) < 2 ^ 64 := by
  have hb := Fx.log2_bounds h
  have hl : m.log2 < 64 := (Nat.log2_lt h).2 hm
  rw [len_of h]
  have h1 := Nat.mul_le_mul_right (2 ^ (64 - (m.log2 + 1))) hb.1
  have h2 := Nat.mul_lt_mul_of_pos_right hb.2 (Nat.two_pow_pos (64 - (m.log2 + 1)))
  rw [← Fx.pow_split] at h1 h2
  rw [show m.log2 + (64 - (m.log2 + 1)) = 63 by omega] at h1
  rw [show m.log2 + 1 + (64 - (m.log2 + 1)) = 64 by omega] at h2
  exact ⟨h1, h2⟩
theorem tall_den {va : Nat → Int} {n : Nat} {w : SE} {m : Nat} (hm : (magE n w).den (EG va) = m) (hm53 : m < 2 ^ 53) (h0 : m ≠ 0) : (tallE n w).den (EG va) = (m * 2 ^ (64 - lenN m) : Nat) := by
  have hl : m.log2 < 53 := (Nat.log2_lt h0).2 hm53
  have hlen := lenG_den (va := va) hm (by omega)
  have hll := len_of h0
  have hr := tall_rng h0 (by omega)
  have hup : (mkWrap .u64 (upE n w)).den (EG va) = (64 - lenN m : Nat) := by
    rw [mkWrap_den]
    show IntKind.u64.wrap (64 - (lenE (magE n w)).den (EG va)) = _
    rw [hlen, wrap_u64]
    omega
  show IntKind.u64.wrap ((magE n w).den (EG va) * 2 ^ ((amt .u64 (mkWrap .u64 (upE n w))).den (EG va)).toNat) = _
  rw [amt_den hup (by omega), Int.toNat_natCast, hm, wrap_u64]
  have e : (m : Int) * 2 ^ (64 - lenN m) = ((m * 2 ^ (64 - lenN m) : Nat) : Int) := by rw [Int.natCast_mul, Int.natCast_pow]; rfl
  rw [e]
  exact u64_id (nat_u64 hr.2)
theorem e13v_den {va : Nat → Int} {i : Nat} {e : Int} (h : va i = e + 5000) (h1 : -5000 ≤ e) (h2 : e < 3192) : (e13v i).den (EG va) = e := by
  show va i % 2 ^ 13 - 5000 = e
  rw [h]
  omega
theorem m64_den {va : Nat → Int} {i x : Nat} (h : va i = x) (hx : x < 2 ^ 64) : (m64 i).den (EG va) = (x : Nat) := by
  show va i % 2 ^ 64 = _
  rw [h]
  exact u64_id (nat_u64 hx)
set_option maxHeartbeats 8000000 in
theorem div_fin {n : Nat} (hn : n = 32 ∨ n = 64) {a b : Nat} (ha : a < 2 ^ n) (hb : b < 2 ^ n) (fa : rgI n a < infR n) (fb' : rgI n b < infR n) (za : rgI n a ≠ 0) (zb : rgI n b ≠ 0) (w : World) :
    CX Tryz.prog 157 #[fmtVal n, .int .u64 (a : Int), .int .u64 (b : Int)] w (fun u w' => u = .int .u64 (Fx.divW (fmtOf n) a b : Nat) ∧ Below w.heap.size w w') := by
  have hRa := rung_rg n a hn
  have hRb := rung_rg n b hn
  have pa := plc_fin hn fa
  have pb := plc_fin hn fb'
  obtain ⟨m, hm⟩ : ∃ m, m = Fx.magOf (fmtOf n) (rgI n a) := ⟨_, rfl⟩
  obtain ⟨k, hk⟩ : ∃ k, k = Fx.magOf (fmtOf n) (rgI n b) := ⟨_, rfl⟩
  have hm53 : m < 2 ^ 53 := by rw [hm]; exact mag_lt hn _
  have hk53 : k < 2 ^ 53 := by rw [hk]; exact mag_lt hn _
  have hm0 : m ≠ 0 := fun h => za ((Fx.mag_zero (fmtOf n)).1 (hm ▸ h))
  have hk0 : k ≠ 0 := fun h => zb ((Fx.mag_zero (fmtOf n)).1 (hk ▸ h))
  have hml : m.log2 < 53 := (Nat.log2_lt hm0).2 hm53
  have hkl : k.log2 < 53 := (Nat.log2_lt hk0).2 hk53
  have hlm := len_of hm0
  have hlk := len_of hk0
  have rm := tall_rng hm0 (show m < 2 ^ 64 by omega)
  have rk := tall_rng hk0 (show k < 2 ^ 64 by omega)
  obtain ⟨up, hup⟩ : ∃ up, up = 64 - lenN m := ⟨_, rfl⟩
  obtain ⟨to, hto⟩ : ∃ to, to = 64 - lenN k := ⟨_, rfl⟩
  rw [← hup] at rm
  rw [← hto] at rk
  obtain ⟨M0, hM0⟩ : ∃ M0, M0 = m * 2 ^ up := ⟨_, rfl⟩
  obtain ⟨K0, hK0⟩ : ∃ K0, K0 = k * 2 ^ to := ⟨_, rfl⟩
  rw [← hM0] at rm
  rw [← hK0] at rk
  obtain ⟨t, ht⟩ : ∃ t, t = decide (K0 ≤ M0) := ⟨_, rfl⟩
  obtain ⟨u, hu⟩ : ∃ u, u = cond t (up - 1) up := ⟨_, rfl⟩
  have hM1 : M0 / 2 = m * 2 ^ (up - 1) := by
    rw [hM0, show up = (up - 1) + 1 by omega, Nat.pow_succ, ← Nat.mul_assoc, Nat.mul_div_cancel _ (by decide)]
    rfl
  obtain ⟨M, hM⟩ : ∃ M, M = m * 2 ^ u := ⟨_, rfl⟩
  have hMt : M = cond t (M0 / 2) M0 := by
    rw [hM, hu]
    cases t
    · exact hM0.symm
    · exact hM1.symm
  have hMlt : M < K0 ∧ 2 ^ 62 ≤ M := by
    rw [hMt]
    cases h : t
    · rw [h] at ht
      have := of_decide_eq_false ht.symm
      simp only [cond_false]
      omega
    · rw [h] at ht
      have := of_decide_eq_true ht.symm
      simp only [cond_true]
      omega
  have huu : (u : Int) = (up : Int) - (if t = true then 1 else 0) := by
    rw [hu]
    cases t
    · simp
    · simp only [cond_true, if_true]
      omega
  obtain ⟨q, hq⟩ : ∃ q, q = M * 2 ^ 64 / K0 := ⟨_, rfl⟩
  obtain ⟨r, hr⟩ : ∃ r, r = M * 2 ^ 64 % K0 := ⟨_, rfl⟩
  have hq1 : q < 2 ^ 64 := by
    rw [hq]
    refine (Nat.div_lt_iff_lt_mul (by omega)).2 ?_
    omega
  have hq2 : 2 ^ 58 ≤ q := by
    rw [hq]
    refine (Nat.le_div_iff_mul_le (by omega)).2 ?_
    omega
  have hr1 : r < 2 ^ 64 := by
    have := Nat.mod_lt (M * 2 ^ 64) (show 0 < K0 by omega)
    omega
  obtain ⟨pA, hpA⟩ : ∃ pA, pA = Fx.placeOf (fmtOf n) (rgI n a) := ⟨_, rfl⟩
  obtain ⟨pB, hpB⟩ : ∃ pB, pB = Fx.placeOf (fmtOf n) (rgI n b) := ⟨_, rfl⟩
  rw [← hpA] at pa
  rw [← hpB] at pb
  obtain ⟨va, hva⟩ : ∃ va, va = vaD a b M0 (pA - up) K0 (pB - to) (M0 / 2) (pA - u) q r (pA - u - (pB - to) - 64) := ⟨_, rfl⟩
  have v0 : va 0 = a := by rw [hva]; rfl
  have v1 : va 1 = b := by rw [hva]; rfl
  have v2 : va 2 = M0 := by rw [hva]; rfl
  have v3 : va 3 = pA - up + 5000 := by rw [hva]; rfl
  have v4 : va 4 = K0 := by rw [hva]; rfl
  have v5 : va 5 = pB - to + 5000 := by rw [hva]; rfl
  have v6 : va 6 = (M0 / 2 : Nat) := by rw [hva]; rfl
  have v7 : va 7 = pA - u + 5000 := by rw [hva]; rfl
  have v8 : va 8 = (q : Int) - 288230376151711744 := by rw [hva]; rfl
  have v9 : va 9 = r := by rw [hva]; rfl
  have v10 : va 10 = (pA - u - (pB - to) - 64) + 5000 := by rw [hva]; rfl
  clear hva
  have hwA : (wA n).den (EG va) = a := by show va 0 % 2 ^ n = _; rw [v0]; exact nat_md ha
  have hwB : (wB n).den (EG va) = b := by show va 1 % 2 ^ n = _; rw [v1]; exact nat_md hb
  have hsA : (sA n).den (EG va) = (rgI n (a : Int) : Nat) := by
    show va 0 % 2 ^ (n - 1) = _
    rw [v0, rgI_nat]
    push_cast
    rfl
  have hsB : (sB n).den (EG va) = (rgI n (b : Int) : Nat) := by
    show va 1 % 2 ^ (n - 1) = _
    rw [v1, rgI_nat]
    push_cast
    rfl
  have hmA : (magE n (wA n)).den (EG va) = (m : Nat) := by rw [magE_den hn, hwA, hm]
  have hmB : (magE n (wB n)).den (EG va) = (k : Nat) := by rw [magE_den hn, hwB, hk]
  have hplA : (plcE n (wA n)).den (EG va) = pA := by rw [plcE_den hn, hwA, hpA]
  have hplB : (plcE n (wB n)).den (EG va) = pB := by rw [plcE_den hn, hwB, hpB]
  have hupA : (upE n (wA n)).den (EG va) = (up : Nat) := by
    show 64 - (lenE (magE n (wA n))).den (EG va) = _
    rw [lenG_den hmA (by omega)]
    omega
  have hupB : (upE n (wB n)).den (EG va) = (to : Nat) := by
    show 64 - (lenE (magE n (wB n))).den (EG va) = _
    rw [lenG_den hmB (by omega)]
    omega
  have hM2 : (m64 2).den (EG va) = M0 := m64_den v2 (by omega)
  have hK4 : (m64 4).den (EG va) = K0 := m64_den v4 (by omega)
  have hM6 : (m64 6).den (EG va) = (M0 / 2 : Nat) := m64_den v6 (by omega)
  have hR9 : (m64 9).den (EG va) = r := m64_den v9 hr1
  have hE3 : (e13v 3).den (EG va) = pA - up := e13v_den v3 (by omega) (by omega)
  have hE5 : (e13v 5).den (EG va) = pB - to := e13v_den v5 (by omega) (by omega)
  have hE7 : (e13v 7).den (EG va) = pA - u := e13v_den v7 (by omega) (by omega)
  have hE10 : (e13v 10).den (EG va) = pA - u - (pB - to) - 64 := e13v_den v10 (by omega) (by omega)
  have hDM : (dM t).den (EG va) = M := by
    rw [hMt]
    cases t
    · exact hM2
    · exact hM6
  have hDE : (dE1 t).den (EG va) = pA - u := by
    cases h : t
    · show (e13v 3).den (EG va) = _
      rw [hE3, huu, h]
      simp
    · exact hE7
  have hDQ : dQ.den (EG va) = q := by
    show va 8 % 2 ^ 64 + 288230376151711744 = q
    rw [v8]
    omega
  have hsm : SumsOk (EG va) Tryz.prog (Gz (divK n t (decide (r ≠ 0)))) (sumsV t) := sumsG_add (smDv_ok hDM hK4 (by rw [hDQ, hq]) (by rw [hR9, hr]) (by omega) hMlt.1 rk.1 rk.2)
  have hkeys : ∀ x ∈ divK n t (decide (r ≠ 0)), x.1.den (EG va) = x.2.den (EG va) := by
    intro x hx
    simp only [divK, List.mem_append, List.mem_cons, List.not_mem_nil, or_false] at hx
    rcases hx with (rfl | rfl | rfl | rfl | rfl | rfl | rfl | rfl | rfl | rfl | rfl) | hx
    · show (mkEq (sA n) (.lit (.ofNat (infR n)))).den _ = (b01 false).den _
      exact eqn_den hsA (lit_den _ _) (decide_eq_false (by omega)).symm
    · show (mkEq (sB n) (.lit (.ofNat (infR n)))).den _ = (b01 false).den _
      exact eqn_den hsB (lit_den _ _) (decide_eq_false (by omega)).symm
    · show (mkEq (sA n) (.lit 0)).den _ = (b01 false).den _
      exact eqn_den hsA (lit_den _ 0) (decide_eq_false za).symm
    · show (mkEq (sB n) (.lit 0)).den _ = (b01 false).den _
      exact eqn_den hsB (lit_den _ 0) (decide_eq_false zb).symm
    · show (tallE n (wA n)).den _ = (m64 2).den _
      rw [tall_den hmA hm53 hm0, hM2, hM0, hup]
    · show (mkWrap .i64 (mkSub (plcE n (wA n)) (upE n (wA n)))).den _ = (e13v 3).den _
      rw [mkWrap_den, mkSub_den, hplA, hupA, hE3, wrap_i64 (by omega) (by omega)]
    · show (tallE n (wB n)).den _ = (m64 4).den _
      rw [tall_den hmB hk53 hk0, hK4, hK0, hto]
    · show (mkWrap .i64 (mkSub (plcE n (wB n)) (upE n (wB n)))).den _ = (e13v 5).den _
      rw [mkWrap_den, mkSub_den, hplB, hupB, hE5, wrap_i64 (by omega) (by omega)]
    · show (mkNot (mkLt (m64 2) (m64 4))).den _ = (b01 t).den _
      refine not_lt_den ?_
      rw [hM2, hK4, ht]
      congr 1
      rw [Int.not_lt]
      simp only [Int.ofNat_le]
    · show (mkNot (mkEq (m64 9) (.lit 0))).den _ = (b01 _).den _
      have h0 : (SE.lit 0).den (EG va) = 0 := rfl
      rw [mkNot_den, mkEq_den, hR9, h0]
      by_cases h : r = 0
      · subst h; rfl
      · rw [if_neg (show ¬ (r : Int) = 0 by omega), decide_eq_true h]; rfl
    · show (mkWrap .i64 (mkSub (mkWrap .i64 (mkSub (dE1 t) (e13v 5))) (.lit 64))).den _ = (e13v 10).den _
      have h64 : (SE.lit 64).den (EG va) = 64 := rfl
      rw [mkWrap_den, mkSub_den, mkWrap_den, mkSub_den, hDE, hE5, h64, hE10, wrap_i64 (x := pA - u - (pB - to)) (by omega) (by omega), wrap_i64 (by omega) (by omega)]
    · cases h : t
      · rw [h] at hx; cases hx
      · rw [h] at hx
        simp only [cond_true, List.mem_cons, List.not_mem_nil, or_false] at hx
        rcases hx with rfl | rfl
        · show (mkShr (m64 2) 1).den _ = (m64 6).den _
          rw [mkShr_den, hM2, hM6]
          omega
        · show (mkWrap .i64 (mkAdd (e13v 3) (.lit 1))).den _ = (e13v 7).den _
          have h1 : (SE.lit 1).den (EG va) = 1 := rfl
          rw [h] at huu
          simp only [if_true] at huu
          rw [mkWrap_den, mkAdd_den, hE3, h1, hE7, wrap_i64 (by omega) (by omega)]
          omega
  have hwf : wfL (EG va) 0 (argsF n) := by
    refine ⟨⟨?_, ?_, trivial⟩, ?_, ?_, trivial⟩
    · rcases hn with rfl | rfl <;> exact in_bits (by decide)
    · rcases hn with rfl | rfl <;> exact in_bits (by decide)
    · simp only [SV.wf]
      rw [hwA]
      exact nat_u64 (w_u64 hn ha)
    · simp only [SV.wf]
      rw [hwB]
      exact nat_u64 (w_u64 hn hb)
  have hden : (denL (EG va) loc0 (argsF n)).toArray = #[fmtVal n, .int .u64 (a : Int), .int .u64 (b : Int)] := by
    show #[fmtVal n, .int .u64 ((wA n).den (EG va)), .int .u64 ((wB n).den (EG va))] = _
    rw [hwA, hwB]
  have hmemB : ∀ x : Bool, x ∈ [false, true] := fun x => by cases x <;> decide
  obtain ⟨hp, kk, hrun⟩ := isUE_ok (List.all_eq_true.1 (List.all_eq_true.1 (List.all_eq_true.1 div_f n (mem_n hn)) t (hmemB _)) (decide (r ≠ 0)) (hmemB _))
  have hc := leafS_cx (E := EG va) hsm hrun hkeys hwf w
  rw [hden] at hc
  refine cx_mono hc fun v w' hv => ?_
  obtain ⟨⟨loc', h1⟩, h2, _⟩ := hv
  refine ⟨?_, h2⟩
  rw [h1]
  simp only [SV.den]
  have hxor : decide ((xorE n).den (EG va) ≠ 0) = (Fx.negOf (fmtOf n) a != Fx.negOf (fmtOf n) b) := by
    have g1 : (negE n (wA n)).den (EG va) = if Fx.negOf (fmtOf n) a = true then 1 else 0 := by
      rw [negE_den _ hn (by rw [hwA]; exact nat_u64 (w_u64 hn ha)), hwA, word_nat ha]
    have g2 : (negE n (wB n)).den (EG va) = if Fx.negOf (fmtOf n) b = true then 1 else 0 := by
      rw [negE_den _ hn (by rw [hwB]; exact nat_u64 (w_u64 hn hb)), hwB, word_nat hb]
    unfold xorE
    rw [mkNot_den, mkEqB_den, g1, g2]
    cases Fx.negOf (fmtOf n) a <;> cases Fx.negOf (fmtOf n) b <;> rfl
  rw [sgE_den hn (rngE_den hn _ hDQ), hxor, hE10]
  have hfb : (fmtOf n).fractionBits + 2 ≤ 61 := by rw [(fmt_nums hn).1]; rcases hn with rfl | rfl <;> decide
  have hquot := Fx.rung_quot (fmtOf n) hm0 hk0 (u := u) (v := to) (by omega) (by
    have : up - 1 ≤ u := by rw [hu]; cases t <;> simp
    omega) (pA - pB)
  rw [← hM, ← hK0] at hquot
  have hplace : pA - pB - (u : Int) + (to : Int) - 65 = pA - u - (pB - to) - 64 - 1 := by omega
  rw [hplace, Fx.rung_half, ← hq, ← hr] at hquot
  unfold Fx.divW
  rw [hRa, hRb, ← hm, ← hk, ← hpA, ← hpB, ← hquot]
  by_cases h : r = 0
  · rw [if_pos h, decide_eq_false (fun h' => h' h), rngI_f]
  · rw [if_neg h, decide_eq_true h, rngI_t]
theorem div_end {n a b : Nat} (hn : n = 32 ∨ n = 64) (ha : a < 2 ^ n) (hb : b < 2 ^ n) {ks : List (SE × SE)} {s : SE} (h : isUE (runV sumsG ks 157 (argsF n)) s = true) (hk : ∀ p ∈ ks, p.1.den (EG (vaA a b 0 0)) = p.2.den (EG (vaA a b 0 0))) (w : World) :
    CX Tryz.prog 157 #[fmtVal n, .int .u64 (a : Int), .int .u64 (b : Int)] w (fun u w' => u = .int .u64 (s.den (EG (vaA a b 0 0))) ∧ Below w.heap.size w w') := runA hn ha hb h hk w
theorem divKi_ok {n a b : Nat} {ia ib za zb : Bool} (h1 : ia = decide (rgI n a = infR n)) (h2 : ib = decide (rgI n b = infR n)) (h3 : za = decide (rgI n a = 0)) (h4 : zb = decide (rgI n b = 0)) : ∀ p ∈ mulKi n ia ib za zb, p.1.den (EG (vaA a b 0 0)) = p.2.den (EG (vaA a b 0 0)) := by
  intro p hp
  simp only [mulKi, List.mem_cons, List.not_mem_nil, or_false] at hp
  rcases hp with rfl | rfl | rfl | rfl
  · exact eqn_den asA_den (lit_den _ _) h1
  · exact eqn_den asB_den (lit_den _ _) h2
  · exact eqn_den asA_den (lit_den _ 0) h3
  · exact eqn_den asB_den (lit_den _ 0) h4
theorem axor_den {n a b : Nat} (hn : n = 32 ∨ n = 64) (ha : a < 2 ^ n) (hb : b < 2 ^ n) : decide ((xorE n).den (EG (vaA a b 0 0)) ≠ 0) = (Fx.negOf (fmtOf n) a != Fx.negOf (fmtOf n) b) := by
  unfold xorE
  rw [op_den hn ha hb (awA_den ha) (awB_den hb)]
  cases Fx.negOf (fmtOf n) a <;> cases Fx.negOf (fmtOf n) b <;> rfl
/-- the program's quotient -/
theorem div_full {n : Nat} (hn : n = 32 ∨ n = 64) {a b : Nat} (ha : a < 2 ^ n) (hb : b < 2 ^ n) (na : rgI n a ≤ infR n) (nb : rgI n b ≤ infR n) (w : World) :
    CX Tryz.prog 157 #[fmtVal n, .int .u64 (a : Int), .int .u64 (b : Int)] w (fun u w' => u = .int .u64 (((fmtOf n).div a b).getD (nanR n) : Nat) ∧ Below w.heap.size w w') := by
  have he : 2 ≤ (fmtOf n).exponentBits := fmt_exp
  have hinf : (fmtOf n).infRung = infR n := (fmt_nums hn).2.2.2
  have hRa := rung_rg n a hn
  have hRb := rung_rg n b hn
  have h0 : infR n ≠ 0 := by rcases hn with rfl | rfl <;> decide
  have hxor := axor_den hn ha hb
  have word_ite : ∀ x : Nat, Value.int .u64 (if (xorE n).den (EG (vaA a b 0 0)) = 0 then (x : Int) else ((x + 2 ^ (n - 1) : Nat) : Int)) = .int .u64 ((fmtOf n).word (Fx.negOf (fmtOf n) a != Fx.negOf (fmtOf n) b) x : Nat) := by
    intro x
    rw [← hxor]
    unfold Ieee.Format.word
    rw [fmt_sign hn]
    by_cases c : (xorE n).den (EG (vaA a b 0 0)) = 0
    · simp [c]
    · rw [if_neg c, decide_eq_true c, if_pos rfl, Nat.add_comm]
  by_cases c1 : (rgI n a = infR n ∧ rgI n b = infR n) ∨ (rgI n a = 0 ∧ rgI n b = 0)
  · rw [Fx.div_none _ he (by rw [hRa, hRb, hinf]; exact c1)]
    refine cx_mono (div_end hn ha hb (s := .lit (.ofNat (nanR n))) (List.all_eq_true.1 (List.all_eq_true.1 div_n n (mem_n hn)) (decide (rgI n a = infR n), decide (rgI n b = infR n), decide (rgI n a = 0), decide (rgI n b = 0)) ?_) (divKi_ok rfl rfl rfl rfl) w) fun u w' ⟨h1, h2⟩ => ⟨h1, h2⟩
    rcases c1 with ⟨x, y⟩ | ⟨x, y⟩ <;> simp [x, y, h0, h0.symm]
  · by_cases c2 : rgI n a = infR n ∨ (rgI n a ≠ 0 ∧ rgI n b = 0)
    · have hbf : rgI n b < infR n := by omega
      rw [Fx.div_toInf _ he (by rw [hRa, hinf]; exact na) (by rw [hRb, hinf]; exact hbf) (by rw [hRa, hRb, hinf]; exact c2), hinf]
      refine cx_mono (div_end hn ha hb (List.all_eq_true.1 (List.all_eq_true.1 div_i n (mem_n hn)) (decide (rgI n a = infR n), decide (rgI n b = infR n), decide (rgI n a = 0), decide (rgI n b = 0)) ?_) (divKi_ok rfl rfl rfl rfl) w) fun u w' ⟨h1, h2⟩ => ⟨?_, h2⟩
      · by_cases d1 : rgI n a = infR n <;> by_cases d2 : rgI n b = infR n <;> by_cases d3 : rgI n a = 0 <;> by_cases d4 : rgI n b = 0 <;> first | (exfalso; omega) | simp [d1, d2, d3, d4, h0, h0.symm]
      · rw [h1]
        exact word_ite _
    · by_cases c3 : rgI n b = infR n ∨ (rgI n b ≠ 0 ∧ rgI n a = 0)
      · have haf : rgI n a < infR n := by omega
        rw [Fx.div_toZero _ he (by rw [hRa, hinf]; exact haf) (by rw [hRb, hinf]; exact nb) (by rw [hRa, hRb, hinf]; exact c3)]
        refine cx_mono (div_end hn ha hb (List.all_eq_true.1 (List.all_eq_true.1 div_z n (mem_n hn)) (decide (rgI n a = infR n), decide (rgI n b = infR n), decide (rgI n a = 0), decide (rgI n b = 0)) ?_) (divKi_ok rfl rfl rfl rfl) w) fun u w' ⟨h1, h2⟩ => ⟨?_, h2⟩
        · by_cases d1 : rgI n a = infR n <;> by_cases d2 : rgI n b = infR n <;> by_cases d3 : rgI n a = 0 <;> by_cases d4 : rgI n b = 0 <;> first | (exfalso; omega) | simp [d1, d2, d3, d4, h0, h0.symm]
        · rw [h1]
          have := word_ite 0
          rw [Nat.zero_add] at this
          exact this
      · rw [Fx.div_num _ he (by rw [hRa, hinf]; omega) (by rw [hRb, hinf]; omega) (by rw [hRb]; omega)]
        exact div_fin hn ha hb (by omega) (by omega) (by omega) (by omega) w

end Sx
end Go.Proofs.YtfdggebddcoeeaaGreatDoor
end
