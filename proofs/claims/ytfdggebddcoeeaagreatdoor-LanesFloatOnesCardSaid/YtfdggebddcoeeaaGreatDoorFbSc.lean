/-
  The program's root of a float that is no NaN.
-/
import Derived.Test.YtfdggebddcoeeaaGreatDoorFbSb
import Derived.Test.YtfdggebddcoeeaaGreatDoorFbPart5
import Derived.Test.YtfdggebddcoeeaaGreatDoorFbDb
set_option linter.unusedVariables false
set_option linter.unusedSimpArgs false
set_option maxRecDepth 100000
noncomputable section
namespace Go.Proofs.YtfdggebddcoeeaaGreatDoor
namespace Sx
open Go Go.RowKit

theorem sq_z : ([32, 64].all fun n => isUE (runV sumsG [(mkEq (sA n) (.lit 0), .lit 1)] 145 (argsO n)) (wA n)) = true := by kernel_rfl
theorem sq_n : ([32, 64].all fun n => isUE (runV sumsG [(mkEq (sA n) (.lit 0), .lit 0), (negE n (wA n), .lit 1)] 145 (argsO n)) (.lit (.ofNat (nanR n)))) = true := by kernel_rfl
theorem sq_i : ([32, 64].all fun n => isUE (runV sumsG [(mkEq (sA n) (.lit 0), .lit 0), (negE n (wA n), .lit 0), (mkEq (wA n) (.lit (.ofNat (infR n))), .lit 1)] 145 (argsO n)) (wA n)) = true := by kernel_rfl
theorem runOne {n a : Nat} (hn : n = 32 ∨ n = 64) (ha : a < 2 ^ n) {f : FuncId} {ks : List (SE × SE)} {s : SE} (h : isUE (runV sumsG ks f (argsO n)) s = true) (hk : ∀ p ∈ ks, p.1.den (EG (vaW a 0 0 0)) = p.2.den (EG (vaW a 0 0 0))) (w : World) :
    CX Tryz.prog f #[fmtVal n, .int .u64 (a : Int)] w (fun u w' => u = .int .u64 (s.den (EG (vaW a 0 0 0))) ∧ Below w.heap.size w w') := by
  obtain ⟨hp, k, hr⟩ := isUE_ok h
  have hc := leafS_cx (E := EG (vaW a 0 0 0)) sumsG_ok hr hk (argsO_wf hn ha) w
  rw [argsO_den ha] at hc
  refine cx_mono hc fun v w' hv => ?_
  obtain ⟨⟨loc', h1⟩, h2, _⟩ := hv
  exact ⟨h1, h2⟩
theorem and_one {x : Int} (h1 : -(2 : Int) ^ 63 ≤ x) (h2 : x < 2 ^ 63) : bits .and .i64 x 1 = x % 2 := by
  have e1 : (BitVec.ofInt 64 (1 : Int)).toNat = 1 := by decide
  have e2 : ((BitVec.ofInt 64 x).toNat : Int) = x % 2 ^ 64 := by
    rw [BitVec.toNat_ofInt, Int.toNat_of_nonneg (Int.emod_nonneg _ (by decide))]
    rfl
  have e3 : bits .and .i64 x 1 = IntKind.i64.wrap ((BitVec.ofInt 64 x &&& BitVec.ofInt 64 (1 : Int)).toNat : Int) := rfl
  rw [e3, BitVec.toNat_and, e1, Nat.and_one_is_mod, wrap_i64 (by omega) (by omega)]
  push_cast
  rw [e2]
  omega
set_option maxHeartbeats 4000000 in
theorem sqrt_num_cx {n : Nat} (hn : n = 32 ∨ n = 64) {a : Nat} (ha : a < 2 ^ n) (hfin : rgI n a < infR n) (hr0 : rgI n a ≠ 0) (hs : Fx.negOf (fmtOf n) a = false) (w : World) :
    CX Tryz.prog 145 #[fmtVal n, .int .u64 (a : Int)] w (fun u w' => u = .int .u64 (((fmtOf n).sqrt a).getD (nanR n) : Nat) ∧ Below w.heap.size w w') := by
  have he : 2 ≤ (fmtOf n).exponentBits := fmt_exp
  have hinf : (fmtOf n).infRung = infR n := (fmt_nums hn).2.2.2
  have hRa := rung_rg n a hn
  have pl := plc_fin hn hfin
  obtain ⟨z, hz, hmodel⟩ := Fx.sqrt_num (fmtOf n) he (a := a) (by rw [hRa, hinf]; exact hfin) (by rw [hRa]; exact hr0) hs
  rw [hRa] at hz hmodel
  have hev := Fx.moreR_even (fmtOf n) (Fx.magOf (fmtOf n) (rgI n a)) (Fx.placeOf (fmtOf n) (rgI n a))
  have hbg := Fx.moreR_big (fmtOf n) (Fx.magOf (fmtOf n) (rgI n a)) (Fx.placeOf (fmtOf n) (rgI n a))
  generalize Fx.moreR (fmtOf n) (Fx.magOf (fmtOf n) (rgI n a)) (Fx.placeOf (fmtOf n) (rgI n a)) = mo at *
  obtain ⟨m, hm⟩ : ∃ m, m = Fx.magOf (fmtOf n) (rgI n a) := ⟨_, rfl⟩
  obtain ⟨e, hee⟩ : ∃ e, e = Fx.placeOf (fmtOf n) (rgI n a) := ⟨_, rfl⟩
  have hm53 : m < 2 ^ 53 := by rw [hm]; exact mag_lt hn _
  have hm0 : m ≠ 0 := fun h => hr0 ((Fx.mag_zero (fmtOf n)).1 (hm ▸ h))
  have hml : m.log2 < 53 := (Nat.log2_lt hm0).2 hm53
  have hlm := len_of hm0
  have rm := tall_rng hm0 (show m < 2 ^ 64 by omega)
  have hcs := c_size hn ha
  have hcn := c_neg hn ha
  have hci := c_inf hn
  have hcp := c_parts hn (a := (a : Int)) (nat_u64 (w_u64 hn ha))
  rw [← hm, ← hee] at hcp hmodel
  rw [← hm] at hz
  rw [← hee] at hev
  rw [← hm] at hbg
  rw [← hee] at pl
  rw [hs] at hcn
  have hainf : a ≠ infR n := by
    intro h
    have : rgI n (a : Int) = a % 2 ^ (n - 1) := rgI_nat a
    rw [h] at this
    have hlt : infR n < 2 ^ (n - 1) := by rcases hn with rfl | rfl <;> decide
    rw [Nat.mod_eq_of_lt hlt, ← h] at this
    omega
  obtain ⟨up, hup⟩ : ∃ up, up = 64 - lenN m := ⟨_, rfl⟩
  rw [← hup] at rm
  obtain ⟨odd, hodd⟩ : ∃ odd, odd = decide ((e - up) % 2 = 1) := ⟨_, rfl⟩
  obtain ⟨u, hu⟩ : ∃ u, u = cond odd (up - 1) up := ⟨_, rfl⟩
  have hu1 : up - 1 ≤ u ∧ u ≤ up := by rw [hu]; cases odd <;> simp
  obtain ⟨M0, hM0⟩ : ∃ M0, M0 = m * 2 ^ up := ⟨_, rfl⟩
  rw [← hM0] at rm
  have hM1 : M0 / 2 = m * 2 ^ (up - 1) := by
    rw [hM0, show up = (up - 1) + 1 by omega, Nat.pow_succ, ← Nat.mul_assoc, Nat.mul_div_cancel _ (by decide)]
    rfl
  obtain ⟨M, hM⟩ : ∃ M, M = m * 2 ^ u := ⟨_, rfl⟩
  have hMt : M = cond odd (M0 / 2) M0 := by
    rw [hM, hu]
    cases odd
    · exact hM0.symm
    · exact hM1.symm
  have hMr : 2 ^ 62 ≤ M ∧ M < 2 ^ 64 := by
    rw [hMt]
    cases odd
    · simp only [cond_false]
      omega
    · simp only [cond_true]
      omega
  have huu : (e - (u : Int)) = cond odd (e - up + 1) (e - up) ∧ (e - (u : Int)) % 2 = 0 := by
    rw [hu]
    cases h : odd
    · rw [h] at hodd
      have := of_decide_eq_false hodd.symm
      clear hM hMt hM0 hM1 hu hu1
      refine ⟨rfl, ?_⟩
      show (e - (up : Int)) % 2 = 0
      omega
    · rw [h] at hodd
      have := of_decide_eq_true hodd.symm
      clear hM hMt hM0 hM1 hu hu1
      refine ⟨?_, ?_⟩
      · show e - ((up - 1 : Nat) : Int) = e - up + 1
        omega
      · show (e - ((up - 1 : Nat) : Int)) % 2 = 0
        omega
  have hu2 := huu.2
  obtain ⟨R, hR⟩ : ∃ R, Fx.IsRoot (M * 2 ^ 60) R := ⟨_, Fx.root_whole _⟩
  have hR61 : 2 ^ 61 ≤ R := Fx.isRoot_big (d := 61) hR (by
    have : (2 : Nat) ^ (2 * 61) = 2 ^ 62 * 2 ^ 60 := by decide
    rw [this]
    exact Nat.mul_le_mul_right _ hMr.1)
  have hR62 : R < 2 ^ 62 := by
    rcases Nat.lt_or_ge R (2 ^ 62) with h | h
    · exact h
    · exfalso
      have h1 := Nat.mul_le_mul h h
      have h2 : M * 2 ^ 60 < 2 ^ 64 * 2 ^ 60 := Nat.mul_lt_mul_of_pos_right hMr.2 (by decide)
      have h3 : (2 : Nat) ^ 62 * 2 ^ 62 = 2 ^ 64 * 2 ^ 60 := by decide
      have h4 := hR.1
      omega
  obtain ⟨D, hD⟩ : ∃ D : Int, D = (e - u - 60) / 2 := ⟨_, rfl⟩
  have hD2 : e - u - 60 = 2 * D := by omega
  have hDr : -3000 < D ∧ D < 3000 := by omega
  have hrounds : ∃ r, Rounds n false R D (decide (R * R ≠ M * 2 ^ 60)) r ∧ r = Fx.rung (fmtOf n) (Fx.SR (M * 2 ^ 60) R) (D - 1) := by
    by_cases hx : R * R = M * 2 ^ 60
    · refine ⟨_, ?_, (Fx.rung_rhalf (fmtOf n) (M * 2 ^ 60) R D).symm⟩
      rw [if_pos hx, decide_eq_false (fun h => h hx)]
      exact round_plain hn false (by omega) (by omega) (by omega)
    · refine ⟨_, ?_, (Fx.rung_rhalf (fmtOf n) (M * 2 ^ 60) R D).symm⟩
      rw [if_neg hx, decide_eq_true hx]
      exact round_more hn false (by omega) (by omega) (by omega) (by omega)
  obtain ⟨r, hr1, hr2⟩ := hrounds
  have hcr := c_round hr1
  have hfinal : Fx.rung (fmtOf n) (Fx.SR (M * 2 ^ 60) R) (D - 1) = Fx.rung (fmtOf n) (Fx.SR (m * 2 ^ mo) z) ((e - mo) / 2 - 1) := by
    have hMM : M * 2 ^ 60 = m * 2 ^ (u + 60) := by rw [hM, Fx.pow_split, Nat.mul_assoc]
    have hpl : D - 1 = (e - ((u + 60 : Nat) : Int)) / 2 - 1 := by
      rw [hD]
      congr 2
      push_cast
      omega
    rw [hMM] at hR ⊢
    rw [hpl]
    have hfb : 2 * ((fmtOf n).fractionBits + 2) ≤ 108 := by rw [(fmt_nums hn).1]; rcases hn with rfl | rfl <;> decide
    have hup1 : up - 1 ≤ u := by rw [hu]; cases odd <;> simp
    refine Fx.rung_roots (fmtOf n) hm0 hev ?_ hbg ?_ hz hR
    · push_cast
      omega
    · omega
  rw [hmodel]
  have hkey : Calls Tryz.prog 145 #[.agg #[.int .i64 (fb n : Nat), .int .i64 (eb n : Nat)], .int .u64 (a : Int)] w fun e w' => e = .returned (.int .u64 ((fmtOf n).word false r : Nat)) ∧ Below w.heap.size w w' := by
    refine sqrt_walk (p := (fb n : Nat)) (q := (eb n : Nat)) (a := a) (sz := (rgI n a : Nat)) (inf := (infR n : Nat)) (m := m) (e := e) (A := ((fmtOf n).word false r : Nat)) (R := R) (D := D) (mr := decide (R * R ≠ M * 2 ^ 60)) (up := up) (M0 := M0) (M := M) (odd := odd)
      (fun w0 w' hA => (hcs w').mono fun e w'' ⟨h1, h2⟩ => ⟨h1, hA.next h2⟩) (fun w0 w' hA => (hcn w').mono fun e w'' ⟨h1, h2⟩ => ⟨h1, hA.next h2⟩) (fun w0 w' hA => (hci w').mono fun e w'' ⟨h1, h2⟩ => ⟨h1, hA.next h2⟩)
      (fun w0 w' hA => (hcp w').mono fun e w'' ⟨h1, h2⟩ => ⟨h1, hA.next h2⟩) (fun w0 w' hA => (hcr w').mono fun e w'' ⟨h1, h2⟩ => ⟨h1, hA.next h2⟩) ?_ ?_ ?_ ?_ ?_ ?_ ?_ ?_ ?_ ?_ ?_ ?_ ?_ ?_ ?_ ?_ ?_ ?_ ?_ w
    · rw [beq_eq_false_iff_ne]; omega
    · rw [beq_eq_false_iff_ne]; omega
    · omega
    · omega
    · omega
    · omega
    · rw [Int.toNat_natCast, bitLen_eq (by omega)]
      omega
    · omega
    · omega
    · rw [and_one (by omega) (by omega), hodd]
      by_cases h : (e - (up : Int)) % 2 = 1
      · rw [h, decide_eq_true rfl]; rfl
      · rw [decide_eq_false h, beq_eq_false_iff_ne]; exact h
    · rw [Int.toNat_natCast, wrap_u64, hM0]
      have e1 : (m : Int) * 2 ^ up = ((m * 2 ^ up : Nat) : Int) := by rw [Int.natCast_mul, Int.natCast_pow]; rfl
      rw [e1, ← hM0]
      exact u64_id (nat_u64 rm.2)
    · rw [hMt]
      cases odd
      · rfl
      · simp only [cond_true]
        omega
    · rw [← huu.1, hD2]
      exact Int.mul_tdiv_cancel_left _ (by decide)
    · omega
    · omega
    · omega
    · omega
    · exact RtI.start hMr.2
    · intro root rest hrt
      obtain ⟨mm, x, y, e1, rfl, rfl, hro⟩ := hrt
      have e2 : mm = M := by omega
      subst e2
      rw [Fx.tops_end] at hro
      obtain ⟨g1, g2⟩ := hro.isRoot
      have g3 := g1.unique hR
      subst g3
      refine ⟨rfl, ?_⟩
      by_cases h : y = 0
      · have hx : x * x = mm * 2 ^ 60 := g2.1 h
        rw [decide_eq_false (fun h' => h' hx), h]
        rfl
      · have hx : x * x ≠ mm * 2 ^ 60 := fun h' => h (g2.2 h')
        rw [decide_eq_true hx, bne_iff_ne]
        omega
  refine cx_of_calls okP Tryz.func145 (by kernel_rfl) (hkey.mono fun e w' ⟨h1, h2⟩ => ?_)
  subst h1
  refine ⟨?_, h2⟩
  rw [hr2, hfinal]
  rfl
/-- the program's root -/
theorem sqrt_full {n : Nat} (hn : n = 32 ∨ n = 64) {a : Nat} (ha : a < 2 ^ n) (na : rgI n a ≤ infR n) (w : World) :
    CX Tryz.prog 145 #[fmtVal n, .int .u64 (a : Int)] w (fun u w' => u = .int .u64 (((fmtOf n).sqrt a).getD (nanR n) : Nat) ∧ Below w.heap.size w w') := by
  have he : 2 ≤ (fmtOf n).exponentBits := fmt_exp
  have hinf : (fmtOf n).infRung = infR n := (fmt_nums hn).2.2.2
  have hRa := rung_rg n a hn
  have h2w : (2 : Nat) ^ n = 2 * (fmtOf n).signWeight := by rw [fmt_sign hn]; rcases hn with rfl | rfl <;> decide
  have h0 : infR n ≠ 0 := by rcases hn with rfl | rfl <;> decide
  by_cases hz : rgI n a = 0
  · rw [Fx.sqrt_zero _ he (by rw [← h2w]; exact ha) (by rw [hRa]; exact hz)]
    refine cx_mono (runOne hn ha (List.all_eq_true.1 sq_z n (mem_n hn)) ?_ w) fun u w' ⟨h1, h2⟩ => ⟨by rw [h1, wwA_den ha]; rfl, h2⟩
    intro p hp
    simp only [List.mem_cons, List.not_mem_nil, or_false] at hp
    subst hp
    show (mkEq (sA n) (.lit 0)).den _ = (b01 true).den _
    exact eqn_den wsA_den (lit_den _ 0) (decide_eq_true hz).symm
  · cases hs : Fx.negOf (fmtOf n) a
    · rcases Nat.lt_or_eq_of_le na with hfin | hi
      · exact sqrt_num_cx hn ha hfin hz hs w
      · have hai : a = infR n := by
          have := Fx.word_self (fmtOf n) (w := a) (by rw [← h2w]; exact ha)
          rw [hs, hRa, hi] at this
          exact this.symm
        rw [Fx.sqrt_inf _ he (by rw [hRa, hinf]; exact hi) hs, hinf]
        refine cx_mono (runOne hn ha (List.all_eq_true.1 sq_i n (mem_n hn)) ?_ w) fun u w' ⟨h1, h2⟩ => ⟨by rw [h1, wwA_den ha, hai]; rfl, h2⟩
        intro p hp
        simp only [List.mem_cons, List.not_mem_nil, or_false] at hp
        rcases hp with rfl | rfl | rfl
        · show (mkEq (sA n) (.lit 0)).den _ = (b01 false).den _
          exact eqn_den wsA_den (lit_den _ 0) (decide_eq_false hz).symm
        · show (negE n (wA n)).den _ = (b01 false).den _
          rw [aneg_den' hn ha (wwA_den ha), hs]
          rfl
        · show (mkEq (wA n) (.lit (.ofNat (infR n)))).den _ = (b01 true).den _
          exact eqn_den (wwA_den ha) (lit_den _ _) (decide_eq_true hai).symm
    · rw [Fx.sqrt_none _ he (by rw [hRa, hinf]; exact na) (by rw [hRa]; exact hz) hs]
      refine cx_mono (runOne hn ha (List.all_eq_true.1 sq_n n (mem_n hn)) ?_ w) fun u w' ⟨h1, h2⟩ => ⟨by rw [h1]; rfl, h2⟩
      intro p hp
      simp only [List.mem_cons, List.not_mem_nil, or_false] at hp
      rcases hp with rfl | rfl
      · show (mkEq (sA n) (.lit 0)).den _ = (b01 false).den _
        exact eqn_den wsA_den (lit_den _ 0) (decide_eq_false hz).symm
      · show (negE n (wA n)).den _ = (b01 true).den _
        rw [aneg_den' hn ha (wwA_den ha), hs]
        rfl

end Sx
end Go.Proofs.YtfdggebddcoeeaaGreatDoor
end
