/-
  A part of the proof.
-/
import Derived.Shelf.Small.Bits
import Derived.Shelf.Bits.Mul64
import Derived.Test.YtfdggebddcoeeaaGreatDoorFbPart2
import Derived.Test.YtfdggebddcoeeaaGreatDoorFbPart3
set_option linter.unusedVariables false
set_option linter.unusedSimpArgs false
/-
  The library's whole numbers: bits.Len64, bits.LeadingZeros64, bits.Mul64, by the kit's contracts.
-/
set_option maxRecDepth 100000
namespace Go.Proofs
open Go.Shelf
def Tryz.lays129_ren : Go.Shelf.Ren := ⟨fun | 129 => 148 | n => n, fun | 53 => 22 | 3 => 3 | 4 => 4 | 46 => 31 | 5 => 5 | 9 => 9 | n => n, fun | n => n⟩
theorem Tryz.lays129 : Go.Proofs.Lays.n129 Tryz.prog Tryz.lays129_ren := {
  mixed := by kernel_rfl
  f129 := Tryz.func148.trans (congrArg some (by kernel_rfl))
  t3 := Tryz.underlying3
  a3 := Tryz.isAgg3
  z3 := Tryz.sizeOf3
  v3 := Tryz.zeroValue3
  t4 := Tryz.underlying4
  a4 := Tryz.isAgg4
  z4 := Tryz.sizeOf4
  v4 := Tryz.zeroValue4
  t5 := Tryz.underlying5
  a5 := Tryz.isAgg5
  z5 := Tryz.sizeOf5
  v5 := Tryz.zeroValue5
  t9 := Tryz.underlying9
  a9 := Tryz.isAgg9
  z9 := Tryz.sizeOf9
  v9 := Tryz.zeroValue9
  t46 := Tryz.underlying31
  a46 := Tryz.isAgg31
  z46 := Tryz.sizeOf31
  v46 := Tryz.zeroValue31
  t53 := Tryz.underlying22
  a53 := Tryz.isAgg22
  z53 := Tryz.sizeOf22
  v53 := Tryz.zeroValue22 }
def Tryz.lays134_ren : Go.Shelf.Ren := ⟨fun | 134 => 200 | 129 => 148 | n => n, fun | 53 => 22 | 3 => 3 | 4 => 4 | 46 => 31 | 5 => 5 | 9 => 9 | n => n, fun | n => n⟩
theorem Tryz.lays134 : Go.Proofs.Lays.n134 Tryz.prog Tryz.lays134_ren := {
  mixed := by kernel_rfl
  f129 := Tryz.func148.trans (congrArg some (by kernel_rfl))
  f134 := Tryz.func200.trans (congrArg some (by kernel_rfl))
  t3 := Tryz.underlying3
  a3 := Tryz.isAgg3
  z3 := Tryz.sizeOf3
  v3 := Tryz.zeroValue3
  t4 := Tryz.underlying4
  a4 := Tryz.isAgg4
  z4 := Tryz.sizeOf4
  v4 := Tryz.zeroValue4
  t5 := Tryz.underlying5
  a5 := Tryz.isAgg5
  z5 := Tryz.sizeOf5
  v5 := Tryz.zeroValue5
  t9 := Tryz.underlying9
  a9 := Tryz.isAgg9
  z9 := Tryz.sizeOf9
  v9 := Tryz.zeroValue9
  t46 := Tryz.underlying31
  a46 := Tryz.isAgg31
  z46 := Tryz.sizeOf31
  v46 := Tryz.zeroValue31
  t53 := Tryz.underlying22
  a53 := Tryz.isAgg22
  z53 := Tryz.sizeOf22
  v53 := Tryz.zeroValue22 }
def Tryz.lays264_ren : Go.Shelf.Ren := ⟨fun | 264 => 187 | n => n, fun | 53 => 22 | 46 => 31 | n => n, fun | n => n⟩
theorem Tryz.lays264 : Go.Proofs.Lays.n264 Tryz.prog Tryz.lays264_ren := {
  mixed := by kernel_rfl
  f264 := Tryz.func187.trans (congrArg some (by kernel_rfl))
  t46 := Tryz.underlying31
  a46 := Tryz.isAgg31
  z46 := Tryz.sizeOf31
  v46 := Tryz.zeroValue31
  t53 := Tryz.underlying22
  a53 := Tryz.isAgg22
  z53 := Tryz.sizeOf22
  v53 := Tryz.zeroValue22 }
theorem Tryz.len64 (x : Int) (w : World) (h0 : 0 ≤ x) (h1 : x ≤ 18446744073709551615) : Calls Tryz.prog 148 #[.int .u64 x] w fun e w' => e = .returned (.int .i64 (Lib.bitLen x.toNat)) ∧ w' = w := Any.bits_Len64 Tryz.lays129 x w h0 h1
theorem Tryz.clz64 (x : Int) (w : World) (h0 : 0 ≤ x) (h1 : x ≤ 18446744073709551615) : Calls Tryz.prog 200 #[.int .u64 x] w fun e w' => e = .returned (.int .i64 (64 - (Lib.bitLen x.toNat : Int))) ∧ w' = w := Any.bits_LeadingZeros64 Tryz.lays134 x w h0 h1
theorem Tryz.mul64 (x y : Nat) (hx : x < 18446744073709551616) (hy : y < 18446744073709551616) (w : World) : Calls Tryz.prog 187 #[.int .u64 x, .int .u64 y] w fun e w' => e = .returned (.tuple #[.int .u64 ((x * y / 18446744073709551616 : Nat) : Int), .int .u64 ((x * y % 18446744073709551616 : Nat) : Int)]) ∧ w' = w := Any.bits_Mul64 Tryz.lays264 x y hx hy w
end Go.Proofs

/-
  Rounding, as the program does it: what is dropped, what is kept, the rung.
-/
namespace Go.Proofs.YtfdggebddcoeeaaGreatDoor
namespace Fx
open Ieee
variable (f : Format)

/-- how many of m's last bits are dropped -/
def dropOf (m : Nat) (e : Int) : Int := lastP f m e - e
/-- what is kept of m -/
def keptOf (m : Nat) (e : Int) : Nat := if dropOf f m e ≤ 0 then m * 2 ^ (-(dropOf f m e)).toNat else rnd m (dropOf f m e).toNat
def xOf (m : Nat) (e : Int) : Nat := if 2 ^ f.fractionBits ≤ keptOf f m e then (lastP f m e - f.leastPlace).toNat else 0
theorem rung_kept {m : Nat} (hm : m ≠ 0) (e : Int) : rung f m e = min ((lastP f m e - f.leastPlace).toNat * f.binade + keptOf f m e) f.infRung := by
  unfold rung keptOf dropOf
  rw [if_neg hm]
  by_cases h : lastP f m e - e ≤ 0
  · rw [if_pos h]
    have e1 : (lastP f m e - e).toNat = 0 := by omega
    have e2 : (e - lastP f m e).toNat = (-(lastP f m e - e)).toNat := by omega
    rw [e1, rnd_zero, e2]
  · rw [if_neg h]
    have e1 : (e - lastP f m e).toNat = 0 := by omega
    rw [e1, Nat.pow_zero, Nat.mul_one]
theorem kept_le {m : Nat} (hm : m ≠ 0) (e : Int) : keptOf f m e ≤ 2 ^ (f.fractionBits + 1) := by
  have hb := log2_bounds hm
  have hlast : e + m.log2 - f.fractionBits ≤ lastP f m e := Int.le_max_left ..
  unfold keptOf dropOf
  by_cases h : lastP f m e - e ≤ 0
  · rw [if_pos h]
    have h1 : m * 2 ^ (-(lastP f m e - e)).toNat ≤ 2 ^ (m.log2 + 1) * 2 ^ (-(lastP f m e - e)).toNat := Nat.mul_le_mul_right _ (Nat.le_of_lt hb.2)
    rw [← pow_split] at h1
    exact Nat.le_trans h1 (Nat.pow_le_pow_right (by decide) (by omega))
  · rw [if_neg h]
    have hd : m.log2 + 1 ≤ f.fractionBits + 1 + (lastP f m e - e).toNat := by omega
    have h2 : m < 2 ^ (f.fractionBits + 1) * 2 ^ (lastP f m e - e).toNat := by
      rw [← pow_split]
      exact Nat.lt_of_lt_of_le hb.2 (Nat.pow_le_pow_right (by decide) hd)
    have h3 : m / 2 ^ (lastP f m e - e).toNat < 2 ^ (f.fractionBits + 1) := (Nat.div_lt_iff_lt_mul (Nat.two_pow_pos _)).2 h2
    unfold rnd
    split <;> omega
theorem kept_ge {m : Nat} (hm : m ≠ 0) {e : Int} (hl : f.leastPlace < lastP f m e) : 2 ^ f.fractionBits ≤ keptOf f m e := by
  have hb := log2_bounds hm
  have hlast : lastP f m e = e + m.log2 - f.fractionBits := by unfold lastP at *; omega
  unfold keptOf dropOf
  by_cases h : lastP f m e - e ≤ 0
  · rw [if_pos h]
    have h1 : 2 ^ m.log2 * 2 ^ (-(lastP f m e - e)).toNat ≤ m * 2 ^ (-(lastP f m e - e)).toNat := Nat.mul_le_mul_right _ hb.1
    rw [← pow_split] at h1
    exact Nat.le_trans (Nat.pow_le_pow_right (by decide) (by omega)) h1
  · rw [if_neg h]
    have h2 : 2 ^ f.fractionBits * 2 ^ (lastP f m e - e).toNat ≤ m := by
      rw [← pow_split]
      refine Nat.le_trans (Nat.pow_le_pow_right (by decide) ?_) hb.1
      omega
    have h3 : 2 ^ f.fractionBits ≤ m / 2 ^ (lastP f m e - e).toNat := (Nat.le_div_iff_mul_le (Nat.two_pow_pos _)).2 h2
    unfold rnd
    omega
theorem x_eq {m : Nat} (hm : m ≠ 0) (e : Int) : xOf f m e = (lastP f m e - f.leastPlace).toNat := by
  unfold xOf
  split
  · rfl
  · rename_i h
    have hge : f.leastPlace ≤ lastP f m e := Int.le_max_right ..
    by_cases hl : f.leastPlace < lastP f m e
    · exact absurd (kept_ge f hm hl) h
    · omega
/-- the rung, as the program finds it -/
theorem round_eq {m : Nat} (hm : m ≠ 0) (e : Int) : rung f m e = if 2 ^ f.exponentBits ≤ xOf f m e then f.infRung else min (xOf f m e * f.binade + keptOf f m e) f.infRung := by
  rw [rung_kept f hm, ← x_eq f hm]
  split
  · rename_i h
    have : f.infRung ≤ xOf f m e * f.binade := by
      unfold Format.infRung
      exact Nat.mul_le_mul_right _ (by omega)
    omega
  · rfl
/-- what is dropped, at the top of a word -/
theorem kept_drop {m : Nat} {d : Nat} (h1 : 1 ≤ d) (h2 : d ≤ 64) : rnd m d = m / 2 ^ d + (if 2 ^ 63 < m % 2 ^ d * 2 ^ (64 - d) ∨ (m % 2 ^ d * 2 ^ (64 - d) = 2 ^ 63 ∧ m / 2 ^ d % 2 = 1) then 1 else 0) := by
  unfold rnd
  congr 1
  have hp := Nat.two_pow_pos (64 - d)
  have e1 : 2 ^ 64 = 2 ^ d * 2 ^ (64 - d) := by rw [← pow_split]; congr 1; omega
  have c1 : (2 ^ d < 2 * (m % 2 ^ d)) ↔ 2 ^ 63 < m % 2 ^ d * 2 ^ (64 - d) := by
    have : 2 ^ d < 2 * (m % 2 ^ d) ↔ 2 ^ d * 2 ^ (64 - d) < 2 * (m % 2 ^ d) * 2 ^ (64 - d) := (Nat.mul_lt_mul_right hp).symm
    rw [this, ← e1, Nat.mul_assoc]
    omega
  have c2 : (2 ^ d = 2 * (m % 2 ^ d)) ↔ m % 2 ^ d * 2 ^ (64 - d) = 2 ^ 63 := by
    have : 2 ^ d = 2 * (m % 2 ^ d) ↔ 2 ^ d * 2 ^ (64 - d) = 2 * (m % 2 ^ d) * 2 ^ (64 - d) := (Nat.mul_left_inj (Nat.pos_iff_ne_zero.1 hp)).symm
    rw [this, ← e1, Nat.mul_assoc]
    omega
  simp only [c1, c2]
theorem kept_far {m d : Nat} (hm : m < 2 ^ 64) (hd : 64 < d) : rnd m d = 0 := by
  have h : 2 ^ 65 ≤ 2 ^ d := Nat.pow_le_pow_right (by decide) hd
  unfold rnd
  rw [Nat.div_eq_of_lt (by omega), Nat.mod_eq_of_lt (by omega), if_neg (by omega)]
/-- a number and a little more: one bit longer, its last bit 1 -/
theorem rnd_more {m d : Nat} (h1 : 1 ≤ d) : rnd (2 * m + 1) (d + 1) = m / 2 ^ d + (if 2 ^ d ≤ 2 * (m % 2 ^ d) then 1 else 0) := by
  have e1 : (2 * m + 1) / 2 ^ (d + 1) = m / 2 ^ d := by
    rw [show 2 ^ (d + 1) = 2 * 2 ^ d by rw [Nat.pow_succ]; omega, ← Nat.div_div_eq_div_mul]
    congr 1
    omega
  have e2 : (2 * m + 1) % 2 ^ (d + 1) = 2 * (m % 2 ^ d) + 1 := by
    rw [show 2 ^ (d + 1) = 2 * 2 ^ d by rw [Nat.pow_succ]; omega, Nat.mod_mul, show (2 * m + 1) / 2 = m by omega]
    omega
  unfold rnd
  rw [e1, e2]
  congr 1
  obtain ⟨c, rfl⟩ : ∃ c, d = c + 1 := ⟨d - 1, by omega⟩
  have h2 : 2 ^ (c + 1 + 1) = 2 * 2 ^ (c + 1) := by rw [Nat.pow_succ]; omega
  have h3 : 2 ^ (c + 1) = 2 * 2 ^ c := by rw [Nat.pow_succ]; omega
  have : (2 ^ (c + 1 + 1) < 2 * (2 * (m % 2 ^ (c + 1)) + 1) ∨ 2 ^ (c + 1 + 1) = 2 * (2 * (m % 2 ^ (c + 1)) + 1) ∧ m / 2 ^ (c + 1) % 2 = 1) ↔ 2 ^ (c + 1) ≤ 2 * (m % 2 ^ (c + 1)) := by omega
  simp only [this]

end Fx
end Go.Proofs.YtfdggebddcoeeaaGreatDoor
