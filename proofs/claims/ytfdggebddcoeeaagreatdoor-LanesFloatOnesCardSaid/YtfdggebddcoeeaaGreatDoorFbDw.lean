/-
  The library's Div64: what it answers.
-/
import Derived.Test.YtfdggebddcoeeaaGreatDoorFbDv
set_option linter.unusedVariables false
set_option linter.unusedSimpArgs false
set_option maxRecDepth 100000
noncomputable section
namespace Go.Proofs.YtfdggebddcoeeaaGreatDoor
namespace Sx
open Go Go.RowKit

theorem castQ (B m y : Nat) : (m : Int) * (B : Int) / (y : Int) = ((m * B / y : Nat) : Int) := by push_cast; rfl
theorem castR (B m y : Nat) : (m : Int) * (B : Int) % (y : Int) = ((m * B % y : Nat) : Int) := by push_cast; rfl
theorem dig_lt {B r y : Nat} (h : r < y) (hB : 0 < B) : r * B / y < B := by
  refine (Nat.div_lt_iff_lt_mul (by omega)).2 ?_
  rw [Nat.mul_comm B]
  exact Nat.mul_lt_mul_of_pos_right h hB
theorem castY (B y : Nat) : (y : Int) / (B : Int) = ((y / B : Nat) : Int) := by push_cast; rfl
theorem castYm (B y : Nat) : (y : Int) % (B : Int) = ((y % B : Nat) : Int) := by push_cast; rfl
theorem wrap_twoN {a b : Nat} (ha : a < 4294967296) (hb : b < 4294967296) : IntKind.u64.wrap (IntKind.u64.wrap ((a : Int) * 4294967296) + (b : Int)) = (a : Int) * 4294967296 + (b : Int) := by
  have h1 : (a : Int) < 4294967296 := by omega
  have h2 : (b : Int) < 4294967296 := by omega
  have h3 : 0 ≤ (a : Int) := by omega
  have h4 : 0 ≤ (b : Int) := by omega
  generalize (a : Int) = x at *
  generalize (b : Int) = y at *
  simp only [IntKind.wrap_u64]
  omega
theorem div64_nat {m y : Nat} (h0 : 0 < m) (hm : m < y) (hy1 : 2 ^ 63 ≤ y) (hy2 : y < 2 ^ 64) (w : World) : Calls Tryz.prog 203 #[.int .u64 (m : Int), .int .u64 0, .int .u64 (y : Int)] w fun e w' => e = .returned (.tuple #[.int .u64 (m * 2 ^ 64 / y : Nat), .int .u64 (m * 2 ^ 64 % y : Nat)]) ∧ w' = w := by
  have hb1 : bits .or .u64 (m : Int) 0 = m := by
    have := bits_or_u64_nat m 0 (by omega) (by omega)
    rw [Nat.or_zero] at this
    exact this
  have hb2 : bits .and .u64 (y : Int) 4294967295 = (y % 4294967296 : Nat) := by
    have := bits_and_u64_nat y 4294967295 (by omega) (by omega)
    rw [show (4294967295 : Nat) = 2 ^ 32 - 1 by decide, Nat.and_two_pow_sub_one_eq_mod] at this
    exact this
  have hc := bitLen_top (y := y) (by omega) (by omega)
  have hcz : 64 - (Lib.bitLen ((y : Int)).toNat : Int) = 0 := by rw [Int.toNat_natCast, hc]; rfl
  have hyd : (y : Int) / 4294967296 = (y / 4294967296 : Nat) := by have := castY 4294967296 y; rw [castB] at this; exact this
  have hsum : ((y / 4294967296 : Nat) : Int) * 4294967296 + ((y % 4294967296 : Nat) : Int) = y := by omega
  obtain ⟨e1, e2⟩ := Fx.two_digitsB 4294967296 hm
  have hBB : 4294967296 * 4294967296 = 2 ^ 64 := by decide
  rw [hBB] at e1 e2
  have hq1 := dig_lt (B := 4294967296) hm (by decide)
  have hq2 := dig_lt (B := 4294967296) (Nat.mod_lt (m * 4294967296) (show 0 < y by omega)) (by decide)
  have c1 := castQ 4294967296 m y
  have c2 := castR 4294967296 m y
  have c3 := castQ 4294967296 (m * 4294967296 % y) y
  have c4 := castR 4294967296 (m * 4294967296 % y) y
  rw [castB] at c1 c2 c3 c4
  have hm' : (m : Int) < y := by omega
  have h0' : 0 < (m : Int) := by omega
  have hy2' : (y : Int) < 18446744073709551616 := by omega
  have h1' : 2147483648 ≤ ((y / 4294967296 : Nat) : Int) := by omega
  have h2' : ((y % 4294967296 : Nat) : Int) < 4294967296 := by omega
  have h3' : 0 ≤ ((y % 4294967296 : Nat) : Int) := by omega
  refine (div64_walk m y (y / 4294967296 : Nat) (y % 4294967296 : Nat) hcz hb1 hb2 hyd h0' hm' hy2' h3' h2' h1' hsum w).mono fun e w' ⟨h1, h2⟩ => ⟨?_, h2⟩
  rw [h1, c1, c2, c3, c4, e1, e2, wrap_twoN hq1 hq2]
  congr 1
end Sx
end Go.Proofs.YtfdggebddcoeeaaGreatDoor
end
