/-
  The library's Div64: a walk.
-/
import Derived.WalkKit
import Derived.OwnWalk
import Derived.BigGuardPart
import Derived.Laws.Bits64b
import Derived.Test.YtfdggebddcoeeaaGreatDoorFbPart5
import Derived.Test.YtfdggebddcoeeaaGreatDoorFbPart6
set_option linter.unusedVariables false
set_option linter.unusedSimpArgs false
set_option maxRecDepth 100000
noncomputable section
namespace Go.Proofs.YtfdggebddcoeeaaGreatDoor
namespace Sx
open Go Go.RowKit

theorem bitLen_top {y : Nat} (h1 : 9223372036854775808 ≤ y) (h2 : y < 18446744073709551616) : Lib.bitLen y = 64 := by
  rw [bitLen_eq (by omega)]
  unfold lenN
  rw [if_neg (by omega), (Nat.log2_eq_iff (by omega)).2 (⟨by omega, by omega⟩ : 2 ^ 63 ≤ y ∧ y < 2 ^ 64)]
def GsB (B : Nat) (y1 y0 u q r : Int) : Prop := ∃ a b c d e : Nat, y1 = a ∧ y0 = b ∧ u = c ∧ q = d ∧ r = e ∧ Fx.GuessB B a b c 0 d e
section
variable {B : Nat} {y1 y0 u q r : Int}
theorem GsB.start (hy1 : (B : Int) ≤ 2 * y1) (hB : 0 < B) (hy0 : 0 ≤ y0) (hy00 : y0 < B) (h0 : 0 ≤ u) (hu : u < y1 * (B : Int) + y0) : GsB B y1 y0 u (u / y1) (u % y1) := by
  obtain ⟨a, rfl⟩ := Int.eq_ofNat_of_zero_le (show 0 ≤ y1 by omega)
  obtain ⟨b, rfl⟩ := Int.eq_ofNat_of_zero_le hy0
  obtain ⟨c, rfl⟩ := Int.eq_ofNat_of_zero_le h0
  refine ⟨a, b, c, c / a, c % a, rfl, rfl, rfl, by push_cast; rfl, by push_cast; rfl, Fx.guess_startB (by omega) hB (by omega) ?_ hB⟩
  exact_mod_cast hu
theorem GsB.bounds (h : GsB B y1 y0 u q r) : 0 ≤ q ∧ q ≤ (B : Int) + 1 ∧ 0 ≤ r := by
  obtain ⟨a, b, c, d, e, rfl, rfl, rfl, rfl, rfl, hg⟩ := h
  have := hg.le
  omega
theorem GsB.down (h : GsB B y1 y0 u q r) (hB : 0 < B) (hu : u < y1 * (B : Int) + y0) (hc : (B : Int) ≤ q ∨ r * (B : Int) < q * y0) : 1 ≤ q ∧ GsB B y1 y0 u (q - 1) (r + y1) ∧ q - 1 ≤ (B : Int) := by
  obtain ⟨a, b, c, d, e, rfl, rfl, rfl, rfl, rfl, hg⟩ := h
  have hc' : B ≤ d ∨ e * B + 0 < d * b := by
    rcases hc with hc | hc
    · left; omega
    · right; exact_mod_cast hc
  obtain ⟨k1, k2, k3⟩ := hg.down (by exact_mod_cast hu) hB hc'
  exact ⟨by omega, ⟨a, b, c, d - 1, e + a, rfl, rfl, rfl, by omega, by omega, k2⟩, by omega⟩
theorem GsB.stop (h : GsB B y1 y0 u q r) (hu : u < y1 * (B : Int) + y0) (hc : q * y0 ≤ r * (B : Int)) : q = u * (B : Int) / (y1 * (B : Int) + y0) := by
  obtain ⟨a, b, c, d, e, rfl, rfl, rfl, rfl, rfl, hg⟩ := h
  have k := hg.stop (by exact_mod_cast hu) (by exact_mod_cast hc)
  rw [Nat.add_zero] at k
  exact_mod_cast k
theorem GsB.break (h : GsB B y1 y0 u q r) (hu : u < y1 * (B : Int) + y0) (hy00 : y0 < B) (hq : q ≤ B) (hr : (B : Int) ≤ r) : q = u * (B : Int) / (y1 * (B : Int) + y0) := by
  obtain ⟨a, b, c, d, e, rfl, rfl, rfl, rfl, rfl, hg⟩ := h
  have k := hg.break (by exact_mod_cast hu) (by omega) (by omega) (by omega)
  rw [Nat.add_zero] at k
  exact_mod_cast k
end
theorem castB : ((4294967296 : Nat) : Int) = 4294967296 := rfl
def GsI (y1 y0 u q r : Int) : Prop := GsB 4294967296 y1 y0 u q r
section
variable {y1 y0 u q r : Int}
theorem GsI.start (hy1 : 2147483648 ≤ y1) (hy0 : 0 ≤ y0) (hy00 : y0 < 4294967296) (h0 : 0 ≤ u) (hu : u < y1 * 4294967296 + y0) : GsI y1 y0 u (u / y1) (u % y1) :=
  GsB.start (by rw [castB]; omega) (by decide) hy0 (by rw [castB]; exact hy00) h0 (by rw [castB]; exact hu)
theorem GsI.bounds (h : GsI y1 y0 u q r) : 0 ≤ q ∧ q ≤ 4294967297 ∧ 0 ≤ r := by
  have := GsB.bounds h
  rw [castB] at this
  exact this
theorem GsI.down (h : GsI y1 y0 u q r) (hu : u < y1 * 4294967296 + y0) (hc : 4294967296 ≤ q ∨ r * 4294967296 < q * y0) : 1 ≤ q ∧ GsI y1 y0 u (q - 1) (r + y1) ∧ q - 1 ≤ 4294967296 := by
  have := GsB.down h (by decide) (by rw [castB]; exact hu) (by rw [castB]; exact hc)
  rw [castB] at this
  exact this
theorem GsI.stop (h : GsI y1 y0 u q r) (hu : u < y1 * 4294967296 + y0) (hc : q * y0 ≤ r * 4294967296) : q = u * 4294967296 / (y1 * 4294967296 + y0) := by
  have := GsB.stop h (by rw [castB]; exact hu) (by rw [castB]; exact hc)
  rw [castB] at this
  exact this
theorem GsI.break (h : GsI y1 y0 u q r) (hu : u < y1 * 4294967296 + y0) (hy00 : y0 < 4294967296) (hq : q ≤ 4294967296) (hr : 4294967296 ≤ r) : q = u * 4294967296 / (y1 * 4294967296 + y0) := by
  have := GsB.break h (by rw [castB]; exact hu) (by rw [castB]; exact hy00) (by rw [castB]; exact hq) (by rw [castB]; exact hr)
  rw [castB] at this
  exact this
end
theorem prod_ok {q y0 : Int} (hq : 0 ≤ q) (hq1 : q < 4294967296) (hy0 : 0 ≤ y0) (hy00 : y0 < 4294967296) : 0 ≤ q * y0 ∧ q * y0 < 18446744073709551616 ∧ (q = 0 → q * y0 = 0) := by
  have h1 := Int.mul_nonneg hq hy0
  have h2 : q * y0 ≤ 4294967295 * 4294967295 := Int.mul_le_mul (by omega) (by omega) hy0 (by decide)
  exact ⟨h1, by omega, fun h => by rw [h, Int.zero_mul]⟩
/-- the first number left: what the second digit is of -/
theorem left_ok {m y Q : Int} (hy2 : y < 18446744073709551616) (h0 : 0 ≤ m) (hm : m < y) (hQ : Q = m * 4294967296 / y) : IntKind.u64.wrap (IntKind.u64.wrap (IntKind.u64.wrap (m * 4294967296)) - IntKind.u64.wrap (Q * y)) = m * 4294967296 % y := by
  have hdm := Int.mul_ediv_add_emod (m * 4294967296) y
  have hlt := Int.emod_lt_of_pos (m * 4294967296) (show 0 < y by omega)
  have hge := Int.emod_nonneg (m * 4294967296) (show y ≠ 0 by omega)
  rw [← hQ, Int.mul_comm y Q] at hdm
  simp only [IntKind.wrap_u64]
  omega
/-- the guess at a digit -/
theorem guess_ok {u y1 y : Int} (h0 : 0 ≤ u) (hu : u < y) (hy2 : y < 18446744073709551616) (hy1 : 2147483648 ≤ y1) : IntKind.u64.wrap (u.tdiv y1) = u / y1 ∧ IntKind.u64.wrap (u - IntKind.u64.wrap (IntKind.u64.wrap (u.tdiv y1) * y1)) = u % y1 ∧ u % y1 < y1 := by
  have hdm := Int.mul_ediv_add_emod u y1
  have hlt := Int.emod_lt_of_pos u (show 0 < y1 by omega)
  have hge := Int.emod_nonneg u (show y1 ≠ 0 by omega)
  have hq0 : 0 ≤ u / y1 := Int.ediv_nonneg h0 (by omega)
  have hq1 : u / y1 ≤ u := Int.ediv_le_self _ h0
  have e1 : IntKind.u64.wrap (u.tdiv y1) = u / y1 := by
    rw [Int.tdiv_eq_ediv_of_nonneg h0, IntKind.wrap_u64]
    omega
  refine ⟨e1, ?_, hlt⟩
  rw [e1]
  rw [Int.mul_comm] at hdm
  have hp : 0 ≤ u / y1 * y1 := Int.mul_nonneg hq0 (by omega)
  simp only [IntKind.wrap_u64]
  generalize u / y1 * y1 = p at *
  omega
set_option maxHeartbeats 4000000 in
theorem div64_walk (m y y1 y0 : Int) (hclz : 64 - (Lib.bitLen y.toNat : Int) = 0) (hb1 : bits .or .u64 m 0 = m) (hb2 : bits .and .u64 y 4294967295 = y0) (hb4 : y / 4294967296 = y1) (h0 : 0 < m) (hm : m < y) (hy2 : y < 18446744073709551616)
    (hy0 : 0 ≤ y0) (hy00 : y0 < 4294967296) (hy1 : 2147483648 ≤ y1) (hy : y1 * 4294967296 + y0 = y) (w : World) : Calls Tryz.prog 203 #[.int .u64 m, .int .u64 0, .int .u64 y] w fun e w' => e = .returned (.tuple #[.int .u64 (IntKind.u64.wrap (IntKind.u64.wrap (m * 4294967296 / y * 4294967296) + m * 4294967296 % y * 4294967296 / y)), .int .u64 (m * 4294967296 % y * 4294967296 % y)]) ∧ w' = w := by
  have hb3 : bits .and .u64 (0 : Int) 4294967295 = 0 := by decide
  have hm0 : (m == 0) = false := by simp; omega
  have hy000 : (y == 0) = false := by simp; omega
  have hle : ¬ y ≤ m := by omega
  obtain ⟨g1, g2, g3⟩ := guess_ok (u := m) (by omega) hm hy2 hy1
  have hU0 := Int.emod_nonneg (m * 4294967296) (show y ≠ 0 by omega)
  have hU1 := Int.emod_lt_of_pos (m * 4294967296) (show 0 < y by omega)
  obtain ⟨k1, k2, k3⟩ := guess_ok (u := m * 4294967296 % y) hU0 hU1 hy2 hy1
  rw [g1] at g2
  rw [k1] at k2
  have hleft := left_ok hy2 (by omega) hm rfl
  have hleft2 := left_ok hy2 hU0 hU1 rfl
  have hst := GsI.start (u := m) hy1 hy0 hy00 (by omega) (by rw [hy]; exact hm)
  have hst2 := GsI.start (u := m * 4294967296 % y) hy1 hy0 hy00 hU0 (by rw [hy]; exact hU1)
  have hQe : ∀ q : Int, q = m * 4294967296 / (y1 * 4294967296 + y0) → q = m * 4294967296 / y := fun q h => by rw [h, hy]
  have hQe2 : ∀ q : Int, q = m * 4294967296 % y * 4294967296 / (y1 * 4294967296 + y0) → q = m * 4294967296 % y * 4294967296 / y := fun q h => by rw [h, hy]
  generalize hU : m * 4294967296 % y = U at *
  generalize hQ : m * 4294967296 / y = Q1 at *
  generalize hQ2 : U * 4294967296 / y = Q2 at *
  generalize hR2 : U * 4294967296 % y = R2 at *
  have hmu : m < y1 * 4294967296 + y0 := by rw [hy]; exact hm
  have hUu : U < y1 * 4294967296 + y0 := by rw [hy]; exact hU1
  clear hy
  go_enter Tryz.func203, Tryz.ntmps203
  go_wp2_with (go_at_call 200; refine (Tryz.clz64 _ _ (by omega) (by omega)).mono ?_; rintro e w' ⟨rfl, rfl⟩)
  go_loop [15, 16] (fun qv rv => ∃ q r : Int, qv = .int .u64 q ∧ rv = .int .u64 r ∧ r < 4294967296 ∧ GsI y1 y0 m q r) (fun qv _ => (intOf qv).toNat)
  case atStart => exact ⟨m / y1, m % y1, rfl, rfl, by omega, hst⟩
  case round =>
    obtain ⟨q, r, rfl, rfl, hr, hg⟩ := hrel
    obtain ⟨hq0, hq1, hr0⟩ := hg.bounds
    by_cases hqB : q < 4294967296
    · obtain ⟨p0, p1, p2⟩ := prod_ok hq0 hqB hy0 hy00
      obtain ⟨P, hP⟩ : ∃ P, q * y0 = P := ⟨_, rfl⟩
      rw [hP] at p0 p1 p2
      have hw : IntKind.u64.wrap (q * y0) = P := by rw [hP, IntKind.wrap_u64]; omega
      go_wp2
      · have hd := hg.down hmu (.inr (by rw [hP]; omega))
        have hE := hQe _ (hd.2.1.break hmu hy00 hd.2.2 (by omega))
        simp only [hE, hleft, k1, k2]
        clear hE hg hq0 hq1 hr0 hr hqB
        go_loop [18, 16] (fun qv rv => ∃ q r : Int, qv = .int .u64 q ∧ rv = .int .u64 r ∧ r < 4294967296 ∧ GsI y1 y0 U q r) (fun qv _ => (intOf qv).toNat)
        case atStart => exact ⟨U / y1, U % y1, rfl, rfl, by omega, hst2⟩
        case round =>
          obtain ⟨q, r, rfl, rfl, hr, hg⟩ := hrel
          obtain ⟨hq0, hq1, hr0⟩ := hg.bounds
          by_cases hqB : q < 4294967296
          · obtain ⟨p0, p1, p2⟩ := prod_ok hq0 hqB hy0 hy00
            obtain ⟨P, hP⟩ : ∃ P, q * y0 = P := ⟨_, rfl⟩
            rw [hP] at p0 p1 p2
            have hw : IntKind.u64.wrap (q * y0) = P := by rw [hP, IntKind.wrap_u64]; omega
            go_wp2
            · have hd := hg.down hUu (.inr (by rw [hP]; omega))
              have hE := hQe2 _ (hd.2.1.break hUu hy00 hd.2.2 (by omega))
              simp only [hE, hleft2]
              go_ret2
              exact ⟨rfl, rfl⟩

            · have hd := hg.down hUu (.inr (by rw [hP]; omega))
              refine ⟨⟨q - 1, r + y1, rfl, rfl, by omega, hd.2.1⟩, ?_⟩
              simp only [intOf]
              omega
            · have hE := hQe2 _ (hg.stop hUu (by rw [hP]; omega))
              simp only [hE, hleft2]
              go_ret2
              exact ⟨rfl, rfl⟩

          · go_wp2
            · have hd := hg.down hUu (.inl (by omega))
              have hE := hQe2 _ (hd.2.1.break hUu hy00 hd.2.2 (by omega))
              simp only [hE, hleft2]
              go_ret2
              exact ⟨rfl, rfl⟩

            · have hd := hg.down hUu (.inl (by omega))
              refine ⟨⟨q - 1, r + y1, rfl, rfl, by omega, hd.2.1⟩, ?_⟩
              simp only [intOf]
              omega

      · have hd := hg.down hmu (.inr (by rw [hP]; omega))
        refine ⟨⟨q - 1, r + y1, rfl, rfl, by omega, hd.2.1⟩, ?_⟩
        simp only [intOf]
        omega
      · have hE := hQe _ (hg.stop hmu (by rw [hP]; omega))
        simp only [hE, hleft, k1, k2]
        clear hE hg hq0 hq1 hr0 hr hqB
        go_loop [18, 16] (fun qv rv => ∃ q r : Int, qv = .int .u64 q ∧ rv = .int .u64 r ∧ r < 4294967296 ∧ GsI y1 y0 U q r) (fun qv _ => (intOf qv).toNat)
        case atStart => exact ⟨U / y1, U % y1, rfl, rfl, by omega, hst2⟩
        case round =>
          obtain ⟨q, r, rfl, rfl, hr, hg⟩ := hrel
          obtain ⟨hq0, hq1, hr0⟩ := hg.bounds
          by_cases hqB : q < 4294967296
          · obtain ⟨p0, p1, p2⟩ := prod_ok hq0 hqB hy0 hy00
            obtain ⟨P, hP⟩ : ∃ P, q * y0 = P := ⟨_, rfl⟩
            rw [hP] at p0 p1 p2
            have hw : IntKind.u64.wrap (q * y0) = P := by rw [hP, IntKind.wrap_u64]; omega
            go_wp2
            · have hd := hg.down hUu (.inr (by rw [hP]; omega))
              have hE := hQe2 _ (hd.2.1.break hUu hy00 hd.2.2 (by omega))
              simp only [hE, hleft2]
              go_ret2
              exact ⟨rfl, rfl⟩

            · have hd := hg.down hUu (.inr (by rw [hP]; omega))
              refine ⟨⟨q - 1, r + y1, rfl, rfl, by omega, hd.2.1⟩, ?_⟩
              simp only [intOf]
              omega
            · have hE := hQe2 _ (hg.stop hUu (by rw [hP]; omega))
              simp only [hE, hleft2]
              go_ret2
              exact ⟨rfl, rfl⟩

          · go_wp2
            · have hd := hg.down hUu (.inl (by omega))
              have hE := hQe2 _ (hd.2.1.break hUu hy00 hd.2.2 (by omega))
              simp only [hE, hleft2]
              go_ret2
              exact ⟨rfl, rfl⟩

            · have hd := hg.down hUu (.inl (by omega))
              refine ⟨⟨q - 1, r + y1, rfl, rfl, by omega, hd.2.1⟩, ?_⟩
              simp only [intOf]
              omega

    · go_wp2
      · have hd := hg.down hmu (.inl (by omega))
        have hE := hQe _ (hd.2.1.break hmu hy00 hd.2.2 (by omega))
        simp only [hE, hleft, k1, k2]
        clear hE hg hq0 hq1 hr0 hr hqB
        go_loop [18, 16] (fun qv rv => ∃ q r : Int, qv = .int .u64 q ∧ rv = .int .u64 r ∧ r < 4294967296 ∧ GsI y1 y0 U q r) (fun qv _ => (intOf qv).toNat)
        case atStart => exact ⟨U / y1, U % y1, rfl, rfl, by omega, hst2⟩
        case round =>
          obtain ⟨q, r, rfl, rfl, hr, hg⟩ := hrel
          obtain ⟨hq0, hq1, hr0⟩ := hg.bounds
          by_cases hqB : q < 4294967296
          · obtain ⟨p0, p1, p2⟩ := prod_ok hq0 hqB hy0 hy00
            obtain ⟨P, hP⟩ : ∃ P, q * y0 = P := ⟨_, rfl⟩
            rw [hP] at p0 p1 p2
            have hw : IntKind.u64.wrap (q * y0) = P := by rw [hP, IntKind.wrap_u64]; omega
            go_wp2
            · have hd := hg.down hUu (.inr (by rw [hP]; omega))
              have hE := hQe2 _ (hd.2.1.break hUu hy00 hd.2.2 (by omega))
              simp only [hE, hleft2]
              go_ret2
              exact ⟨rfl, rfl⟩

            · have hd := hg.down hUu (.inr (by rw [hP]; omega))
              refine ⟨⟨q - 1, r + y1, rfl, rfl, by omega, hd.2.1⟩, ?_⟩
              simp only [intOf]
              omega
            · have hE := hQe2 _ (hg.stop hUu (by rw [hP]; omega))
              simp only [hE, hleft2]
              go_ret2
              exact ⟨rfl, rfl⟩

          · go_wp2
            · have hd := hg.down hUu (.inl (by omega))
              have hE := hQe2 _ (hd.2.1.break hUu hy00 hd.2.2 (by omega))
              simp only [hE, hleft2]
              go_ret2
              exact ⟨rfl, rfl⟩

            · have hd := hg.down hUu (.inl (by omega))
              refine ⟨⟨q - 1, r + y1, rfl, rfl, by omega, hd.2.1⟩, ?_⟩
              simp only [intOf]
              omega

      · have hd := hg.down hmu (.inl (by omega))
        refine ⟨⟨q - 1, r + y1, rfl, rfl, by omega, hd.2.1⟩, ?_⟩
        simp only [intOf]
        omega

end Sx
end Go.Proofs.YtfdggebddcoeeaaGreatDoor
end
