/-
  Leaf functions of whole numbers: the program's and the reference's come to the same.
-/
import Derived.Test.YtfdggebddcoeeaaGreatDoorTyLf
set_option linter.unusedVariables false
set_option linter.unusedSimpArgs false
set_option maxRecDepth 100000
noncomputable section
namespace Go.Proofs.YtfdggebddcoeeaaGreatDoor
namespace Sx
open Go Go.RowKit

theorem wrap64_id {z : Int} (h1 : -9223372036854775808 ≤ z) (h2 : z < 9223372036854775808) : IntKind.i64.wrap z = z := by
  simp [IntKind.wrap, IntKind.bits, IntKind.signed]
  omega
theorem wrap_u64 (z : Int) : IntKind.u64.wrap z = z % 18446744073709551616 := by simp [IntKind.wrap, IntKind.bits, IntKind.signed]
theorem mul_range {B X Y : Int} (hB : 0 < B) (hx : -B ≤ X ∧ X < B) (hy : -B ≤ Y ∧ Y < B) : -(B * B) ≤ X * Y ∧ X * Y ≤ B * B := by
  have ax : X.natAbs ≤ B.natAbs := by omega
  have ay : Y.natAbs ≤ B.natAbs := by omega
  have h := Nat.mul_le_mul ax ay
  rw [← Int.natAbs_mul, ← Int.natAbs_mul] at h
  have hp : 0 ≤ B * B := Int.mul_nonneg (by omega) (by omega)
  generalize X * Y = p at *
  generalize B * B = q at *
  omega
theorem tdiv_cases (t : Int) : -1073758208 ≤ t → t ≤ 1073758208 → (-40000 ≤ t.tdiv 32768 ∧ t.tdiv 32768 ≤ 40000) ∧ (t.tmod 32768 < 0 → t.tdiv 32768 - 1 = t / 32768) ∧ (¬ t.tmod 32768 < 0 → t.tdiv 32768 = t / 32768) := by
  intro h1 h2
  rcases Int.le_total 0 t with h | h
  · have e1 : t.tdiv 32768 = t / 32768 := Int.tdiv_eq_ediv_of_nonneg h
    have e2 : t.tmod 32768 = t % 32768 := Int.tmod_eq_emod_of_nonneg h
    rw [e1, e2]
    omega
  · have e1 : t.tdiv 32768 = -((-t) / 32768) := by
      have : t = -(-t) := by omega
      conv => lhs; rw [this]
      rw [Int.neg_tdiv, Int.tdiv_eq_ediv_of_nonneg (by omega)]
    have e2 : t.tmod 32768 = -((-t) % 32768) := by
      have : t = -(-t) := by omega
      conv => lhs; rw [this]
      rw [Int.neg_tmod, Int.tmod_eq_emod_of_nonneg (by omega)]
    rw [e1, e2]
    omega

theorem bin8_1 : LeafB 107 8 1 ∧ LeafB 63 8 1 := leafB_agree (by decide) (by decide) rfl (by kernel_rfl)
theorem bin8_2 : LeafB 107 8 2 ∧ LeafB 63 8 2 := leafB_two (by decide) (by decide) rfl (a := (.md (.wrap .u64 (.sub (.md (.var 0) 8) (.md (.var 1) 8))) 8)) (b := (.md (.wrap .u64 (.add (.md (.var 0) 8) (.wrap .u64 (.sub (.lit 0) (.md (.var 1) 8))))) 8)) (by kernel_rfl) fun x y hx hy => by
  simp [inR, IntKind.min, IntKind.max, IntKind.signed, IntKind.bits] at hx hy
  simp only [SE.den, va0, va1, IntKind.wrap, IntKind.bits, IntKind.signed, Bool.true_and, Bool.false_and, decide_eq_true_eq, ge_iff_le, Int.reducePow, Int.reduceToNat, Nat.reduceSub, Bool.false_eq_true, if_false]
  omega
theorem bin8_16 : LeafB 107 8 16 ∧ LeafB 63 8 16 := leafB_agree (by decide) (by decide) rfl (by kernel_rfl)
theorem bin8_17 : LeafB 107 8 17 ∧ LeafB 63 8 17 := leafB_two (by decide) (by decide) rfl (a := (.ite (.lt (.wrap .u64 (.sub (.lit 255) (.md (.var 1) 8))) (.md (.var 0) 8)) (.lit 255) (.wrap .u64 (.add (.md (.var 0) 8) (.md (.var 1) 8))))) (b := (.md (.wrap .u64 (.add (.md (.var 0) 8) (.ite (.lt (.wrap .u64 (.sub (.lit 255) (.md (.var 0) 8))) (.md (.var 1) 8)) (.wrap .u64 (.sub (.lit 255) (.md (.var 0) 8))) (.md (.var 1) 8)))) 8)) (by kernel_rfl) fun x y hx hy => by
  simp [inR, IntKind.min, IntKind.max, IntKind.signed, IntKind.bits] at hx hy
  simp only [SE.den, va0, va1, IntKind.wrap, IntKind.bits, IntKind.signed, Bool.true_and, Bool.false_and, decide_eq_true_eq, ge_iff_le, Int.reducePow, Int.reduceToNat, Nat.reduceSub, Bool.false_eq_true, if_false]
  omega
theorem sat8_18 (X Y : Int) (b1 : -128 ≤ X ∧ X < 128) (b2 : -128 ≤ Y ∧ Y < 128) : ((IntKind.u64.wrap (if (if (if (0 : Int) < Y then (1 : Int) else 0) = 0 then (0 : Int) else (if X < (IntKind.i64.wrap ((-128 : Int) + Y)) then (1 : Int) else 0)) = 0 then (if (if (if Y < (0 : Int) then (1 : Int) else 0) = 0 then (0 : Int) else (if (IntKind.i64.wrap ((127 : Int) + Y)) < X then (1 : Int) else 0)) = 0 then (IntKind.i64.wrap (X - Y)) else (127 : Int)) else (-128 : Int))) % 2 ^ 8) = (if (if Y = (-128 : Int) then (1 : Int) else 0) = 0 then ((IntKind.u64.wrap (if (if (if (0 : Int) < (IntKind.i64.wrap ((0 : Int) - Y)) then (1 : Int) else 0) = 0 then (0 : Int) else (if (IntKind.i64.wrap ((127 : Int) - (IntKind.i64.wrap ((0 : Int) - Y)))) < X then (1 : Int) else 0)) = 0 then (if (if (if (IntKind.i64.wrap ((0 : Int) - Y)) < (0 : Int) then (1 : Int) else 0) = 0 then (0 : Int) else (if X < (IntKind.i64.wrap ((-128 : Int) - (IntKind.i64.wrap ((0 : Int) - Y)))) then (1 : Int) else 0)) = 0 then (IntKind.i64.wrap (X + (IntKind.i64.wrap ((0 : Int) - Y)))) else (-128 : Int)) else (127 : Int))) % 2 ^ 8) else ((IntKind.u64.wrap (if (if (126 : Int) < (if (if (0 : Int) < X then (1 : Int) else 0) = 0 then (IntKind.i64.wrap (X + (127 : Int))) else (127 : Int)) then (1 : Int) else 0) = 0 then (IntKind.i64.wrap ((if (if (0 : Int) < X then (1 : Int) else 0) = 0 then (IntKind.i64.wrap (X + (127 : Int))) else (127 : Int)) + (1 : Int))) else (127 : Int))) % 2 ^ 8)) := by
  simp (disch := omega) only [wrap64_id]
  simp only [wrap_u64, Int.reducePow]
  omega
theorem bin8_18 : LeafB 107 8 18 ∧ LeafB 63 8 18 := leafB_two (by decide) (by decide) rfl (a := (.md (.wrap .u64 (.ite (.ite (.lt (.lit 0) (.wrap .i8 (.md (.var 1) 8))) (.lt (.wrap .i8 (.md (.var 0) 8)) (.wrap .i64 (.add (.lit (-128)) (.wrap .i8 (.md (.var 1) 8))))) (.lit 0)) (.lit (-128)) (.ite (.ite (.lt (.wrap .i8 (.md (.var 1) 8)) (.lit 0)) (.lt (.wrap .i64 (.add (.lit 127) (.wrap .i8 (.md (.var 1) 8)))) (.wrap .i8 (.md (.var 0) 8))) (.lit 0)) (.lit 127) (.wrap .i64 (.sub (.wrap .i8 (.md (.var 0) 8)) (.wrap .i8 (.md (.var 1) 8))))))) 8)) (b := (.ite (.eq (.wrap .i8 (.md (.var 1) 8)) (.lit (-128))) (.md (.wrap .u64 (.ite (.lt (.lit 126) (.ite (.lt (.lit 0) (.wrap .i8 (.md (.var 0) 8))) (.lit 127) (.wrap .i64 (.add (.wrap .i8 (.md (.var 0) 8)) (.lit 127))))) (.lit 127) (.wrap .i64 (.add (.ite (.lt (.lit 0) (.wrap .i8 (.md (.var 0) 8))) (.lit 127) (.wrap .i64 (.add (.wrap .i8 (.md (.var 0) 8)) (.lit 127)))) (.lit 1))))) 8) (.md (.wrap .u64 (.ite (.ite (.lt (.lit 0) (.wrap .i64 (.sub (.lit 0) (.wrap .i8 (.md (.var 1) 8))))) (.lt (.wrap .i64 (.sub (.lit 127) (.wrap .i64 (.sub (.lit 0) (.wrap .i8 (.md (.var 1) 8)))))) (.wrap .i8 (.md (.var 0) 8))) (.lit 0)) (.lit 127) (.ite (.ite (.lt (.wrap .i64 (.sub (.lit 0) (.wrap .i8 (.md (.var 1) 8)))) (.lit 0)) (.lt (.wrap .i8 (.md (.var 0) 8)) (.wrap .i64 (.sub (.lit (-128)) (.wrap .i64 (.sub (.lit 0) (.wrap .i8 (.md (.var 1) 8))))))) (.lit 0)) (.lit (-128)) (.wrap .i64 (.add (.wrap .i8 (.md (.var 0) 8)) (.wrap .i64 (.sub (.lit 0) (.wrap .i8 (.md (.var 1) 8))))))))) 8))) (by kernel_rfl) fun x y _ _ => sat8_18 _ _ (wrap_signed_range (k := .i8) rfl (x % 2 ^ 8)) (wrap_signed_range (k := .i8) rfl (y % 2 ^ 8))
theorem bin8_19 : LeafB 107 8 19 ∧ LeafB 63 8 19 := leafB_two (by decide) (by decide) rfl (a := (.ite (.lt (.md (.var 0) 8) (.md (.var 1) 8)) (.lit 0) (.wrap .u64 (.sub (.md (.var 0) 8) (.md (.var 1) 8))))) (b := (.md (.wrap .u64 (.sub (.md (.var 0) 8) (.ite (.lt (.md (.var 1) 8) (.md (.var 0) 8)) (.md (.var 1) 8) (.md (.var 0) 8)))) 8)) (by kernel_rfl) fun x y hx hy => by
  simp [inR, IntKind.min, IntKind.max, IntKind.signed, IntKind.bits] at hx hy
  simp only [SE.den, va0, va1, IntKind.wrap, IntKind.bits, IntKind.signed, Bool.true_and, Bool.false_and, decide_eq_true_eq, ge_iff_le, Int.reducePow, Int.reduceToNat, Nat.reduceSub, Bool.false_eq_true, if_false]
  omega
theorem bin8_20 : LeafB 107 8 20 ∧ LeafB 63 8 20 := leafB_two (by decide) (by decide) rfl (a := (.ite (.eq (.eq (.lt (.wrap .i8 (.md (.var 0) 8)) (.wrap .i8 (.md (.var 1) 8))) (.lit 0)) (.lit 0)) (.md (.var 0) 8) (.md (.var 1) 8))) (b := (.md (.wrap .u64 (.ite (.lt (.wrap .i8 (.md (.var 1) 8)) (.wrap .i8 (.md (.var 0) 8))) (.wrap .i8 (.md (.var 1) 8)) (.wrap .i8 (.md (.var 0) 8)))) 8)) (by kernel_rfl) fun x y hx hy => by
  simp [inR, IntKind.min, IntKind.max, IntKind.signed, IntKind.bits] at hx hy
  simp only [SE.den, va0, va1, IntKind.wrap, IntKind.bits, IntKind.signed, Bool.true_and, Bool.false_and, decide_eq_true_eq, ge_iff_le, Int.reducePow, Int.reduceToNat, Nat.reduceSub, Bool.false_eq_true, if_false]
  omega
theorem bin8_21 : LeafB 107 8 21 ∧ LeafB 63 8 21 := leafB_two (by decide) (by decide) rfl (a := (.ite (.eq (.eq (.lt (.md (.var 0) 8) (.md (.var 1) 8)) (.lit 0)) (.lit 0)) (.md (.var 0) 8) (.md (.var 1) 8))) (b := (.ite (.lt (.md (.var 1) 8) (.md (.var 0) 8)) (.md (.var 1) 8) (.md (.var 0) 8))) (by kernel_rfl) fun x y hx hy => by
  simp [inR, IntKind.min, IntKind.max, IntKind.signed, IntKind.bits] at hx hy
  simp only [SE.den, va0, va1, IntKind.wrap, IntKind.bits, IntKind.signed, Bool.true_and, Bool.false_and, decide_eq_true_eq, ge_iff_le, Int.reducePow, Int.reduceToNat, Nat.reduceSub, Bool.false_eq_true, if_false]
  omega
theorem bin8_22 : LeafB 107 8 22 ∧ LeafB 63 8 22 := leafB_two (by decide) (by decide) rfl (a := (.ite (.eq (.lt (.wrap .i8 (.md (.var 0) 8)) (.wrap .i8 (.md (.var 1) 8))) (.lit 0)) (.md (.var 0) 8) (.md (.var 1) 8))) (b := (.md (.wrap .u64 (.ite (.lt (.wrap .i8 (.md (.var 0) 8)) (.wrap .i8 (.md (.var 1) 8))) (.wrap .i8 (.md (.var 1) 8)) (.wrap .i8 (.md (.var 0) 8)))) 8)) (by kernel_rfl) fun x y hx hy => by
  simp [inR, IntKind.min, IntKind.max, IntKind.signed, IntKind.bits] at hx hy
  simp only [SE.den, va0, va1, IntKind.wrap, IntKind.bits, IntKind.signed, Bool.true_and, Bool.false_and, decide_eq_true_eq, ge_iff_le, Int.reducePow, Int.reduceToNat, Nat.reduceSub, Bool.false_eq_true, if_false]
  omega
theorem bin8_23 : LeafB 107 8 23 ∧ LeafB 63 8 23 := leafB_two (by decide) (by decide) rfl (a := (.ite (.eq (.lt (.md (.var 0) 8) (.md (.var 1) 8)) (.lit 0)) (.md (.var 0) 8) (.md (.var 1) 8))) (b := (.ite (.lt (.md (.var 0) 8) (.md (.var 1) 8)) (.md (.var 1) 8) (.md (.var 0) 8))) (by kernel_rfl) fun x y hx hy => by
  simp [inR, IntKind.min, IntKind.max, IntKind.signed, IntKind.bits] at hx hy
  simp only [SE.den, va0, va1, IntKind.wrap, IntKind.bits, IntKind.signed, Bool.true_and, Bool.false_and, decide_eq_true_eq, ge_iff_le, Int.reducePow, Int.reduceToNat, Nat.reduceSub, Bool.false_eq_true, if_false]
  omega
theorem bin8_24 : LeafB 107 8 24 ∧ LeafB 63 8 24 := leafB_two (by decide) (by decide) rfl (a := (.wrap .u64 (.add (.wrap .u64 (.add (.shr (.md (.var 0) 8) (.lit 1)) (.shr (.md (.var 1) 8) (.lit 1)))) (.shr (.wrap .u64 (.add (.wrap .u64 (.add (.md (.var 0) 1) (.md (.var 1) 1))) (.lit 1))) (.lit 1))))) (b := (.md (.wrap .u64 (.add (.wrap .u64 (.add (.shr (.md (.var 0) 8) (.lit 1)) (.shr (.md (.var 1) 8) (.lit 1)))) (.shr (.wrap .u64 (.add (.wrap .u64 (.add (.md (.var 0) 1) (.md (.var 1) 1))) (.lit 1))) (.lit 1)))) 8)) (by kernel_rfl) fun x y hx hy => by
  simp [inR, IntKind.min, IntKind.max, IntKind.signed, IntKind.bits] at hx hy
  simp only [SE.den, va0, va1, IntKind.wrap, IntKind.bits, IntKind.signed, Bool.true_and, Bool.false_and, decide_eq_true_eq, ge_iff_le, Int.reducePow, Int.reduceToNat, Nat.reduceSub, Bool.false_eq_true, if_false]
  omega
theorem bin16_1 : LeafB 107 16 1 ∧ LeafB 63 16 1 := leafB_agree (by decide) (by decide) rfl (by kernel_rfl)
theorem bin16_2 : LeafB 107 16 2 ∧ LeafB 63 16 2 := leafB_two (by decide) (by decide) rfl (a := (.md (.wrap .u64 (.sub (.md (.var 0) 16) (.md (.var 1) 16))) 16)) (b := (.md (.wrap .u64 (.add (.md (.var 0) 16) (.wrap .u64 (.sub (.lit 0) (.md (.var 1) 16))))) 16)) (by kernel_rfl) fun x y hx hy => by
  simp [inR, IntKind.min, IntKind.max, IntKind.signed, IntKind.bits] at hx hy
  simp only [SE.den, va0, va1, IntKind.wrap, IntKind.bits, IntKind.signed, Bool.true_and, Bool.false_and, decide_eq_true_eq, ge_iff_le, Int.reducePow, Int.reduceToNat, Nat.reduceSub, Bool.false_eq_true, if_false]
  omega
theorem bin16_16 : LeafB 107 16 16 ∧ LeafB 63 16 16 := leafB_agree (by decide) (by decide) rfl (by kernel_rfl)
theorem bin16_17 : LeafB 107 16 17 ∧ LeafB 63 16 17 := leafB_two (by decide) (by decide) rfl (a := (.ite (.lt (.wrap .u64 (.sub (.lit 65535) (.md (.var 1) 16))) (.md (.var 0) 16)) (.lit 65535) (.wrap .u64 (.add (.md (.var 0) 16) (.md (.var 1) 16))))) (b := (.md (.wrap .u64 (.add (.md (.var 0) 16) (.ite (.lt (.wrap .u64 (.sub (.lit 65535) (.md (.var 0) 16))) (.md (.var 1) 16)) (.wrap .u64 (.sub (.lit 65535) (.md (.var 0) 16))) (.md (.var 1) 16)))) 16)) (by kernel_rfl) fun x y hx hy => by
  simp [inR, IntKind.min, IntKind.max, IntKind.signed, IntKind.bits] at hx hy
  simp only [SE.den, va0, va1, IntKind.wrap, IntKind.bits, IntKind.signed, Bool.true_and, Bool.false_and, decide_eq_true_eq, ge_iff_le, Int.reducePow, Int.reduceToNat, Nat.reduceSub, Bool.false_eq_true, if_false]
  omega
theorem sat16_18 (X Y : Int) (b1 : -32768 ≤ X ∧ X < 32768) (b2 : -32768 ≤ Y ∧ Y < 32768) : ((IntKind.u64.wrap (if (if (if (0 : Int) < Y then (1 : Int) else 0) = 0 then (0 : Int) else (if X < (IntKind.i64.wrap ((-32768 : Int) + Y)) then (1 : Int) else 0)) = 0 then (if (if (if Y < (0 : Int) then (1 : Int) else 0) = 0 then (0 : Int) else (if (IntKind.i64.wrap ((32767 : Int) + Y)) < X then (1 : Int) else 0)) = 0 then (IntKind.i64.wrap (X - Y)) else (32767 : Int)) else (-32768 : Int))) % 2 ^ 16) = (if (if Y = (-32768 : Int) then (1 : Int) else 0) = 0 then ((IntKind.u64.wrap (if (if (if (0 : Int) < (IntKind.i64.wrap ((0 : Int) - Y)) then (1 : Int) else 0) = 0 then (0 : Int) else (if (IntKind.i64.wrap ((32767 : Int) - (IntKind.i64.wrap ((0 : Int) - Y)))) < X then (1 : Int) else 0)) = 0 then (if (if (if (IntKind.i64.wrap ((0 : Int) - Y)) < (0 : Int) then (1 : Int) else 0) = 0 then (0 : Int) else (if X < (IntKind.i64.wrap ((-32768 : Int) - (IntKind.i64.wrap ((0 : Int) - Y)))) then (1 : Int) else 0)) = 0 then (IntKind.i64.wrap (X + (IntKind.i64.wrap ((0 : Int) - Y)))) else (-32768 : Int)) else (32767 : Int))) % 2 ^ 16) else ((IntKind.u64.wrap (if (if (32766 : Int) < (if (if (0 : Int) < X then (1 : Int) else 0) = 0 then (IntKind.i64.wrap (X + (32767 : Int))) else (32767 : Int)) then (1 : Int) else 0) = 0 then (IntKind.i64.wrap ((if (if (0 : Int) < X then (1 : Int) else 0) = 0 then (IntKind.i64.wrap (X + (32767 : Int))) else (32767 : Int)) + (1 : Int))) else (32767 : Int))) % 2 ^ 16)) := by
  simp (disch := omega) only [wrap64_id]
  simp only [wrap_u64, Int.reducePow]
  omega
theorem bin16_18 : LeafB 107 16 18 ∧ LeafB 63 16 18 := leafB_two (by decide) (by decide) rfl (a := (.md (.wrap .u64 (.ite (.ite (.lt (.lit 0) (.wrap .i16 (.md (.var 1) 16))) (.lt (.wrap .i16 (.md (.var 0) 16)) (.wrap .i64 (.add (.lit (-32768)) (.wrap .i16 (.md (.var 1) 16))))) (.lit 0)) (.lit (-32768)) (.ite (.ite (.lt (.wrap .i16 (.md (.var 1) 16)) (.lit 0)) (.lt (.wrap .i64 (.add (.lit 32767) (.wrap .i16 (.md (.var 1) 16)))) (.wrap .i16 (.md (.var 0) 16))) (.lit 0)) (.lit 32767) (.wrap .i64 (.sub (.wrap .i16 (.md (.var 0) 16)) (.wrap .i16 (.md (.var 1) 16))))))) 16)) (b := (.ite (.eq (.wrap .i16 (.md (.var 1) 16)) (.lit (-32768))) (.md (.wrap .u64 (.ite (.lt (.lit 32766) (.ite (.lt (.lit 0) (.wrap .i16 (.md (.var 0) 16))) (.lit 32767) (.wrap .i64 (.add (.wrap .i16 (.md (.var 0) 16)) (.lit 32767))))) (.lit 32767) (.wrap .i64 (.add (.ite (.lt (.lit 0) (.wrap .i16 (.md (.var 0) 16))) (.lit 32767) (.wrap .i64 (.add (.wrap .i16 (.md (.var 0) 16)) (.lit 32767)))) (.lit 1))))) 16) (.md (.wrap .u64 (.ite (.ite (.lt (.lit 0) (.wrap .i64 (.sub (.lit 0) (.wrap .i16 (.md (.var 1) 16))))) (.lt (.wrap .i64 (.sub (.lit 32767) (.wrap .i64 (.sub (.lit 0) (.wrap .i16 (.md (.var 1) 16)))))) (.wrap .i16 (.md (.var 0) 16))) (.lit 0)) (.lit 32767) (.ite (.ite (.lt (.wrap .i64 (.sub (.lit 0) (.wrap .i16 (.md (.var 1) 16)))) (.lit 0)) (.lt (.wrap .i16 (.md (.var 0) 16)) (.wrap .i64 (.sub (.lit (-32768)) (.wrap .i64 (.sub (.lit 0) (.wrap .i16 (.md (.var 1) 16))))))) (.lit 0)) (.lit (-32768)) (.wrap .i64 (.add (.wrap .i16 (.md (.var 0) 16)) (.wrap .i64 (.sub (.lit 0) (.wrap .i16 (.md (.var 1) 16))))))))) 16))) (by kernel_rfl) fun x y _ _ => sat16_18 _ _ (wrap_signed_range (k := .i16) rfl (x % 2 ^ 16)) (wrap_signed_range (k := .i16) rfl (y % 2 ^ 16))
theorem bin16_19 : LeafB 107 16 19 ∧ LeafB 63 16 19 := leafB_two (by decide) (by decide) rfl (a := (.ite (.lt (.md (.var 0) 16) (.md (.var 1) 16)) (.lit 0) (.wrap .u64 (.sub (.md (.var 0) 16) (.md (.var 1) 16))))) (b := (.md (.wrap .u64 (.sub (.md (.var 0) 16) (.ite (.lt (.md (.var 1) 16) (.md (.var 0) 16)) (.md (.var 1) 16) (.md (.var 0) 16)))) 16)) (by kernel_rfl) fun x y hx hy => by
  simp [inR, IntKind.min, IntKind.max, IntKind.signed, IntKind.bits] at hx hy
  simp only [SE.den, va0, va1, IntKind.wrap, IntKind.bits, IntKind.signed, Bool.true_and, Bool.false_and, decide_eq_true_eq, ge_iff_le, Int.reducePow, Int.reduceToNat, Nat.reduceSub, Bool.false_eq_true, if_false]
  omega
theorem bin16_20 : LeafB 107 16 20 ∧ LeafB 63 16 20 := leafB_two (by decide) (by decide) rfl (a := (.ite (.eq (.eq (.lt (.wrap .i16 (.md (.var 0) 16)) (.wrap .i16 (.md (.var 1) 16))) (.lit 0)) (.lit 0)) (.md (.var 0) 16) (.md (.var 1) 16))) (b := (.md (.wrap .u64 (.ite (.lt (.wrap .i16 (.md (.var 1) 16)) (.wrap .i16 (.md (.var 0) 16))) (.wrap .i16 (.md (.var 1) 16)) (.wrap .i16 (.md (.var 0) 16)))) 16)) (by kernel_rfl) fun x y hx hy => by
  simp [inR, IntKind.min, IntKind.max, IntKind.signed, IntKind.bits] at hx hy
  simp only [SE.den, va0, va1, IntKind.wrap, IntKind.bits, IntKind.signed, Bool.true_and, Bool.false_and, decide_eq_true_eq, ge_iff_le, Int.reducePow, Int.reduceToNat, Nat.reduceSub, Bool.false_eq_true, if_false]
  omega
theorem bin16_21 : LeafB 107 16 21 ∧ LeafB 63 16 21 := leafB_two (by decide) (by decide) rfl (a := (.ite (.eq (.eq (.lt (.md (.var 0) 16) (.md (.var 1) 16)) (.lit 0)) (.lit 0)) (.md (.var 0) 16) (.md (.var 1) 16))) (b := (.ite (.lt (.md (.var 1) 16) (.md (.var 0) 16)) (.md (.var 1) 16) (.md (.var 0) 16))) (by kernel_rfl) fun x y hx hy => by
  simp [inR, IntKind.min, IntKind.max, IntKind.signed, IntKind.bits] at hx hy
  simp only [SE.den, va0, va1, IntKind.wrap, IntKind.bits, IntKind.signed, Bool.true_and, Bool.false_and, decide_eq_true_eq, ge_iff_le, Int.reducePow, Int.reduceToNat, Nat.reduceSub, Bool.false_eq_true, if_false]
  omega
theorem bin16_22 : LeafB 107 16 22 ∧ LeafB 63 16 22 := leafB_two (by decide) (by decide) rfl (a := (.ite (.eq (.lt (.wrap .i16 (.md (.var 0) 16)) (.wrap .i16 (.md (.var 1) 16))) (.lit 0)) (.md (.var 0) 16) (.md (.var 1) 16))) (b := (.md (.wrap .u64 (.ite (.lt (.wrap .i16 (.md (.var 0) 16)) (.wrap .i16 (.md (.var 1) 16))) (.wrap .i16 (.md (.var 1) 16)) (.wrap .i16 (.md (.var 0) 16)))) 16)) (by kernel_rfl) fun x y hx hy => by
  simp [inR, IntKind.min, IntKind.max, IntKind.signed, IntKind.bits] at hx hy
  simp only [SE.den, va0, va1, IntKind.wrap, IntKind.bits, IntKind.signed, Bool.true_and, Bool.false_and, decide_eq_true_eq, ge_iff_le, Int.reducePow, Int.reduceToNat, Nat.reduceSub, Bool.false_eq_true, if_false]
  omega
theorem bin16_23 : LeafB 107 16 23 ∧ LeafB 63 16 23 := leafB_two (by decide) (by decide) rfl (a := (.ite (.eq (.lt (.md (.var 0) 16) (.md (.var 1) 16)) (.lit 0)) (.md (.var 0) 16) (.md (.var 1) 16))) (b := (.ite (.lt (.md (.var 0) 16) (.md (.var 1) 16)) (.md (.var 1) 16) (.md (.var 0) 16))) (by kernel_rfl) fun x y hx hy => by
  simp [inR, IntKind.min, IntKind.max, IntKind.signed, IntKind.bits] at hx hy
  simp only [SE.den, va0, va1, IntKind.wrap, IntKind.bits, IntKind.signed, Bool.true_and, Bool.false_and, decide_eq_true_eq, ge_iff_le, Int.reducePow, Int.reduceToNat, Nat.reduceSub, Bool.false_eq_true, if_false]
  omega
theorem bin16_24 : LeafB 107 16 24 ∧ LeafB 63 16 24 := leafB_two (by decide) (by decide) rfl (a := (.wrap .u64 (.add (.wrap .u64 (.add (.shr (.md (.var 0) 16) (.lit 1)) (.shr (.md (.var 1) 16) (.lit 1)))) (.shr (.wrap .u64 (.add (.wrap .u64 (.add (.md (.var 0) 1) (.md (.var 1) 1))) (.lit 1))) (.lit 1))))) (b := (.md (.wrap .u64 (.add (.wrap .u64 (.add (.shr (.md (.var 0) 16) (.lit 1)) (.shr (.md (.var 1) 16) (.lit 1)))) (.shr (.wrap .u64 (.add (.wrap .u64 (.add (.md (.var 0) 1) (.md (.var 1) 1))) (.lit 1))) (.lit 1)))) 16)) (by kernel_rfl) fun x y hx hy => by
  simp [inR, IntKind.min, IntKind.max, IntKind.signed, IntKind.bits] at hx hy
  simp only [SE.den, va0, va1, IntKind.wrap, IntKind.bits, IntKind.signed, Bool.true_and, Bool.false_and, decide_eq_true_eq, ge_iff_le, Int.reducePow, Int.reduceToNat, Nat.reduceSub, Bool.false_eq_true, if_false]
  omega
theorem sat16_25 (X Y : Int) (b1 : -32768 ≤ X ∧ X < 32768) (b2 : -32768 ≤ Y ∧ Y < 32768) : ((IntKind.u64.wrap (if (if (32767 : Int) < (if (if (Int.tmod (IntKind.i64.wrap ((IntKind.i64.wrap (X * Y)) + (16384 : Int))) (32768 : Int)) < (0 : Int) then (1 : Int) else 0) = 0 then (IntKind.i64.wrap (Int.tdiv (IntKind.i64.wrap ((IntKind.i64.wrap (X * Y)) + (16384 : Int))) (32768 : Int))) else (IntKind.i64.wrap ((IntKind.i64.wrap (Int.tdiv (IntKind.i64.wrap ((IntKind.i64.wrap (X * Y)) + (16384 : Int))) (32768 : Int))) - (1 : Int)))) then (1 : Int) else 0) = 0 then (if (if (Int.tmod (IntKind.i64.wrap ((IntKind.i64.wrap (X * Y)) + (16384 : Int))) (32768 : Int)) < (0 : Int) then (1 : Int) else 0) = 0 then (IntKind.i64.wrap (Int.tdiv (IntKind.i64.wrap ((IntKind.i64.wrap (X * Y)) + (16384 : Int))) (32768 : Int))) else (IntKind.i64.wrap ((IntKind.i64.wrap (Int.tdiv (IntKind.i64.wrap ((IntKind.i64.wrap (X * Y)) + (16384 : Int))) (32768 : Int))) - (1 : Int)))) else (32767 : Int))) % 2 ^ 16) = ((IntKind.u64.wrap (if (if (32767 : Int) < ((IntKind.i64.wrap ((IntKind.i64.wrap (X * Y)) + (16384 : Int))) / 2 ^ 15) then (1 : Int) else 0) = 0 then ((IntKind.i64.wrap ((IntKind.i64.wrap (X * Y)) + (16384 : Int))) / 2 ^ 15) else (32767 : Int))) % 2 ^ 16) := by
  have b3 := mul_range (B := 32768) (by decide) b1 b2
  generalize X * Y = p at *
  simp (disch := omega) only [wrap64_id]
  obtain ⟨h0, h1, h2⟩ := tdiv_cases (p + 16384) (by omega) (by omega)
  simp only [wrap_u64, Int.reducePow]
  generalize (p + 16384).tdiv 32768 = q at *
  generalize (p + 16384).tmod 32768 = r at *
  simp (disch := omega) only [wrap64_id]
  omega
theorem bin16_25 : LeafB 107 16 25 ∧ LeafB 63 16 25 := leafB_two (by decide) (by decide) rfl (a := (.md (.wrap .u64 (.ite (.lt (.lit 32767) (.ite (.lt (.tmod (.wrap .i64 (.add (.wrap .i64 (.mul (.wrap .i16 (.md (.var 0) 16)) (.wrap .i16 (.md (.var 1) 16)))) (.lit 16384))) (.lit 32768)) (.lit 0)) (.wrap .i64 (.sub (.wrap .i64 (.tdiv (.wrap .i64 (.add (.wrap .i64 (.mul (.wrap .i16 (.md (.var 0) 16)) (.wrap .i16 (.md (.var 1) 16)))) (.lit 16384))) (.lit 32768))) (.lit 1))) (.wrap .i64 (.tdiv (.wrap .i64 (.add (.wrap .i64 (.mul (.wrap .i16 (.md (.var 0) 16)) (.wrap .i16 (.md (.var 1) 16)))) (.lit 16384))) (.lit 32768))))) (.lit 32767) (.ite (.lt (.tmod (.wrap .i64 (.add (.wrap .i64 (.mul (.wrap .i16 (.md (.var 0) 16)) (.wrap .i16 (.md (.var 1) 16)))) (.lit 16384))) (.lit 32768)) (.lit 0)) (.wrap .i64 (.sub (.wrap .i64 (.tdiv (.wrap .i64 (.add (.wrap .i64 (.mul (.wrap .i16 (.md (.var 0) 16)) (.wrap .i16 (.md (.var 1) 16)))) (.lit 16384))) (.lit 32768))) (.lit 1))) (.wrap .i64 (.tdiv (.wrap .i64 (.add (.wrap .i64 (.mul (.wrap .i16 (.md (.var 0) 16)) (.wrap .i16 (.md (.var 1) 16)))) (.lit 16384))) (.lit 32768)))))) 16)) (b := (.md (.wrap .u64 (.ite (.lt (.lit 32767) (.shr (.wrap .i64 (.add (.wrap .i64 (.mul (.wrap .i16 (.md (.var 0) 16)) (.wrap .i16 (.md (.var 1) 16)))) (.lit 16384))) (.lit 15))) (.lit 32767) (.shr (.wrap .i64 (.add (.wrap .i64 (.mul (.wrap .i16 (.md (.var 0) 16)) (.wrap .i16 (.md (.var 1) 16)))) (.lit 16384))) (.lit 15)))) 16)) (by kernel_rfl) fun x y _ _ => sat16_25 _ _ (wrap_signed_range (k := .i16) rfl (x % 2 ^ 16)) (wrap_signed_range (k := .i16) rfl (y % 2 ^ 16))
theorem bin32_1 : LeafB 107 32 1 ∧ LeafB 63 32 1 := leafB_agree (by decide) (by decide) rfl (by kernel_rfl)
theorem bin32_2 : LeafB 107 32 2 ∧ LeafB 63 32 2 := leafB_two (by decide) (by decide) rfl (a := (.md (.wrap .u64 (.sub (.md (.var 0) 32) (.md (.var 1) 32))) 32)) (b := (.md (.wrap .u64 (.add (.md (.var 0) 32) (.wrap .u64 (.sub (.lit 0) (.md (.var 1) 32))))) 32)) (by kernel_rfl) fun x y hx hy => by
  simp [inR, IntKind.min, IntKind.max, IntKind.signed, IntKind.bits] at hx hy
  simp only [SE.den, va0, va1, IntKind.wrap, IntKind.bits, IntKind.signed, Bool.true_and, Bool.false_and, decide_eq_true_eq, ge_iff_le, Int.reducePow, Int.reduceToNat, Nat.reduceSub, Bool.false_eq_true, if_false]
  omega
theorem bin32_20 : LeafB 107 32 20 ∧ LeafB 63 32 20 := leafB_two (by decide) (by decide) rfl (a := (.ite (.eq (.eq (.lt (.wrap .i32 (.md (.var 0) 32)) (.wrap .i32 (.md (.var 1) 32))) (.lit 0)) (.lit 0)) (.md (.var 0) 32) (.md (.var 1) 32))) (b := (.md (.wrap .u64 (.ite (.lt (.wrap .i32 (.md (.var 1) 32)) (.wrap .i32 (.md (.var 0) 32))) (.wrap .i32 (.md (.var 1) 32)) (.wrap .i32 (.md (.var 0) 32)))) 32)) (by kernel_rfl) fun x y hx hy => by
  simp [inR, IntKind.min, IntKind.max, IntKind.signed, IntKind.bits] at hx hy
  simp only [SE.den, va0, va1, IntKind.wrap, IntKind.bits, IntKind.signed, Bool.true_and, Bool.false_and, decide_eq_true_eq, ge_iff_le, Int.reducePow, Int.reduceToNat, Nat.reduceSub, Bool.false_eq_true, if_false]
  omega
theorem bin32_21 : LeafB 107 32 21 ∧ LeafB 63 32 21 := leafB_two (by decide) (by decide) rfl (a := (.ite (.eq (.eq (.lt (.md (.var 0) 32) (.md (.var 1) 32)) (.lit 0)) (.lit 0)) (.md (.var 0) 32) (.md (.var 1) 32))) (b := (.ite (.lt (.md (.var 1) 32) (.md (.var 0) 32)) (.md (.var 1) 32) (.md (.var 0) 32))) (by kernel_rfl) fun x y hx hy => by
  simp [inR, IntKind.min, IntKind.max, IntKind.signed, IntKind.bits] at hx hy
  simp only [SE.den, va0, va1, IntKind.wrap, IntKind.bits, IntKind.signed, Bool.true_and, Bool.false_and, decide_eq_true_eq, ge_iff_le, Int.reducePow, Int.reduceToNat, Nat.reduceSub, Bool.false_eq_true, if_false]
  omega
theorem bin32_22 : LeafB 107 32 22 ∧ LeafB 63 32 22 := leafB_two (by decide) (by decide) rfl (a := (.ite (.eq (.lt (.wrap .i32 (.md (.var 0) 32)) (.wrap .i32 (.md (.var 1) 32))) (.lit 0)) (.md (.var 0) 32) (.md (.var 1) 32))) (b := (.md (.wrap .u64 (.ite (.lt (.wrap .i32 (.md (.var 0) 32)) (.wrap .i32 (.md (.var 1) 32))) (.wrap .i32 (.md (.var 1) 32)) (.wrap .i32 (.md (.var 0) 32)))) 32)) (by kernel_rfl) fun x y hx hy => by
  simp [inR, IntKind.min, IntKind.max, IntKind.signed, IntKind.bits] at hx hy
  simp only [SE.den, va0, va1, IntKind.wrap, IntKind.bits, IntKind.signed, Bool.true_and, Bool.false_and, decide_eq_true_eq, ge_iff_le, Int.reducePow, Int.reduceToNat, Nat.reduceSub, Bool.false_eq_true, if_false]
  omega
theorem bin32_23 : LeafB 107 32 23 ∧ LeafB 63 32 23 := leafB_two (by decide) (by decide) rfl (a := (.ite (.eq (.lt (.md (.var 0) 32) (.md (.var 1) 32)) (.lit 0)) (.md (.var 0) 32) (.md (.var 1) 32))) (b := (.ite (.lt (.md (.var 0) 32) (.md (.var 1) 32)) (.md (.var 1) 32) (.md (.var 0) 32))) (by kernel_rfl) fun x y hx hy => by
  simp [inR, IntKind.min, IntKind.max, IntKind.signed, IntKind.bits] at hx hy
  simp only [SE.den, va0, va1, IntKind.wrap, IntKind.bits, IntKind.signed, Bool.true_and, Bool.false_and, decide_eq_true_eq, ge_iff_le, Int.reducePow, Int.reduceToNat, Nat.reduceSub, Bool.false_eq_true, if_false]
  omega
theorem bin64_1 : LeafB 107 64 1 ∧ LeafB 63 64 1 := leafB_agree (by decide) (by decide) rfl (by kernel_rfl)
theorem bin64_2 : LeafB 107 64 2 ∧ LeafB 63 64 2 := leafB_two (by decide) (by decide) rfl (a := (.wrap .u64 (.sub (.md (.var 0) 64) (.md (.var 1) 64)))) (b := (.wrap .u64 (.add (.md (.var 0) 64) (.wrap .u64 (.sub (.lit 0) (.md (.var 1) 64)))))) (by kernel_rfl) fun x y hx hy => by
  simp [inR, IntKind.min, IntKind.max, IntKind.signed, IntKind.bits] at hx hy
  simp only [SE.den, va0, va1, IntKind.wrap, IntKind.bits, IntKind.signed, Bool.true_and, Bool.false_and, decide_eq_true_eq, ge_iff_le, Int.reducePow, Int.reduceToNat, Nat.reduceSub, Bool.false_eq_true, if_false]
  omega
theorem rel8_1 : LeafR 117 8 1 ∧ LeafR 106 8 1 := leafR_agree (by decide) (by decide) (by decide) (by kernel_rfl)
theorem rel8_2 : LeafR 117 8 2 ∧ LeafR 106 8 2 := leafR_agree (by decide) (by decide) (by decide) (by kernel_rfl)
theorem rel8_3 : LeafR 117 8 3 ∧ LeafR 106 8 3 := leafR_agree (by decide) (by decide) (by decide) (by kernel_rfl)
theorem rel8_4 : LeafR 117 8 4 ∧ LeafR 106 8 4 := leafR_agree (by decide) (by decide) (by decide) (by kernel_rfl)
theorem rel8_5 : LeafR 117 8 5 ∧ LeafR 106 8 5 := leafR_agree (by decide) (by decide) (by decide) (by kernel_rfl)
theorem rel8_6 : LeafR 117 8 6 ∧ LeafR 106 8 6 := leafR_agree (by decide) (by decide) (by decide) (by kernel_rfl)
theorem rel8_7 : LeafR 117 8 7 ∧ LeafR 106 8 7 := leafR_agree (by decide) (by decide) (by decide) (by kernel_rfl)
theorem rel8_8 : LeafR 117 8 8 ∧ LeafR 106 8 8 := leafR_agree (by decide) (by decide) (by decide) (by kernel_rfl)
theorem rel8_9 : LeafR 117 8 9 ∧ LeafR 106 8 9 := leafR_agree (by decide) (by decide) (by decide) (by kernel_rfl)
theorem rel8_10 : LeafR 117 8 10 ∧ LeafR 106 8 10 := leafR_agree (by decide) (by decide) (by decide) (by kernel_rfl)
theorem rel16_1 : LeafR 117 16 1 ∧ LeafR 106 16 1 := leafR_agree (by decide) (by decide) (by decide) (by kernel_rfl)
theorem rel16_2 : LeafR 117 16 2 ∧ LeafR 106 16 2 := leafR_agree (by decide) (by decide) (by decide) (by kernel_rfl)
theorem rel16_3 : LeafR 117 16 3 ∧ LeafR 106 16 3 := leafR_agree (by decide) (by decide) (by decide) (by kernel_rfl)
theorem rel16_4 : LeafR 117 16 4 ∧ LeafR 106 16 4 := leafR_agree (by decide) (by decide) (by decide) (by kernel_rfl)
theorem rel16_5 : LeafR 117 16 5 ∧ LeafR 106 16 5 := leafR_agree (by decide) (by decide) (by decide) (by kernel_rfl)
theorem rel16_6 : LeafR 117 16 6 ∧ LeafR 106 16 6 := leafR_agree (by decide) (by decide) (by decide) (by kernel_rfl)
theorem rel16_7 : LeafR 117 16 7 ∧ LeafR 106 16 7 := leafR_agree (by decide) (by decide) (by decide) (by kernel_rfl)
theorem rel16_8 : LeafR 117 16 8 ∧ LeafR 106 16 8 := leafR_agree (by decide) (by decide) (by decide) (by kernel_rfl)
theorem rel16_9 : LeafR 117 16 9 ∧ LeafR 106 16 9 := leafR_agree (by decide) (by decide) (by decide) (by kernel_rfl)
theorem rel16_10 : LeafR 117 16 10 ∧ LeafR 106 16 10 := leafR_agree (by decide) (by decide) (by decide) (by kernel_rfl)
theorem rel32_1 : LeafR 117 32 1 ∧ LeafR 106 32 1 := leafR_agree (by decide) (by decide) (by decide) (by kernel_rfl)
theorem rel32_2 : LeafR 117 32 2 ∧ LeafR 106 32 2 := leafR_agree (by decide) (by decide) (by decide) (by kernel_rfl)
theorem rel32_3 : LeafR 117 32 3 ∧ LeafR 106 32 3 := leafR_agree (by decide) (by decide) (by decide) (by kernel_rfl)
theorem rel32_4 : LeafR 117 32 4 ∧ LeafR 106 32 4 := leafR_agree (by decide) (by decide) (by decide) (by kernel_rfl)
theorem rel32_5 : LeafR 117 32 5 ∧ LeafR 106 32 5 := leafR_agree (by decide) (by decide) (by decide) (by kernel_rfl)
theorem rel32_6 : LeafR 117 32 6 ∧ LeafR 106 32 6 := leafR_agree (by decide) (by decide) (by decide) (by kernel_rfl)
theorem rel32_7 : LeafR 117 32 7 ∧ LeafR 106 32 7 := leafR_agree (by decide) (by decide) (by decide) (by kernel_rfl)
theorem rel32_8 : LeafR 117 32 8 ∧ LeafR 106 32 8 := leafR_agree (by decide) (by decide) (by decide) (by kernel_rfl)
theorem rel32_9 : LeafR 117 32 9 ∧ LeafR 106 32 9 := leafR_agree (by decide) (by decide) (by decide) (by kernel_rfl)
theorem rel32_10 : LeafR 117 32 10 ∧ LeafR 106 32 10 := leafR_agree (by decide) (by decide) (by decide) (by kernel_rfl)
theorem rel64_1 : LeafR 117 64 1 ∧ LeafR 106 64 1 := leafR_agree (by decide) (by decide) (by decide) (by kernel_rfl)
theorem rel64_2 : LeafR 117 64 2 ∧ LeafR 106 64 2 := leafR_agree (by decide) (by decide) (by decide) (by kernel_rfl)
theorem rel64_3 : LeafR 117 64 3 ∧ LeafR 106 64 3 := leafR_agree (by decide) (by decide) (by decide) (by kernel_rfl)
theorem rel64_5 : LeafR 117 64 5 ∧ LeafR 106 64 5 := leafR_agree (by decide) (by decide) (by decide) (by kernel_rfl)
theorem rel64_7 : LeafR 117 64 7 ∧ LeafR 106 64 7 := leafR_agree (by decide) (by decide) (by decide) (by kernel_rfl)
theorem rel64_9 : LeafR 117 64 9 ∧ LeafR 106 64 9 := leafR_agree (by decide) (by decide) (by decide) (by kernel_rfl)
theorem un8_7 : LeafU 118 8 7 ∧ LeafU 97 8 7 := leafU_two (by decide) (by decide) rfl (a := (.ite (.eq (.shr (.md (.var 0) 8) (.lit 7)) (.lit 0)) (.md (.var 0) 8) (.md (.wrap .u64 (.sub (.lit 0) (.md (.var 0) 8))) 8))) (b := (.ite (.eq (.lt (.wrap .i8 (.md (.var 0) 8)) (.lit 0)) (.lit 0)) (.md (.var 0) 8) (.md (.wrap .u64 (.sub (.lit 0) (.md (.var 0) 8))) 8))) (by kernel_rfl) fun x hx => by
  simp [inR, IntKind.min, IntKind.max, IntKind.signed, IntKind.bits] at hx
  simp only [SE.den, va0, IntKind.wrap, IntKind.bits, IntKind.signed, Bool.true_and, Bool.false_and, decide_eq_true_eq, ge_iff_le, Int.reducePow, Int.reduceToNat, Nat.reduceSub, Bool.false_eq_true, if_false]
  omega
theorem un8_8 : LeafU 118 8 8 ∧ LeafU 97 8 8 := leafU_agree (by decide) (by decide) rfl (by kernel_rfl)
theorem un16_7 : LeafU 118 16 7 ∧ LeafU 97 16 7 := leafU_two (by decide) (by decide) rfl (a := (.ite (.eq (.shr (.md (.var 0) 16) (.lit 15)) (.lit 0)) (.md (.var 0) 16) (.md (.wrap .u64 (.sub (.lit 0) (.md (.var 0) 16))) 16))) (b := (.ite (.eq (.lt (.wrap .i16 (.md (.var 0) 16)) (.lit 0)) (.lit 0)) (.md (.var 0) 16) (.md (.wrap .u64 (.sub (.lit 0) (.md (.var 0) 16))) 16))) (by kernel_rfl) fun x hx => by
  simp [inR, IntKind.min, IntKind.max, IntKind.signed, IntKind.bits] at hx
  simp only [SE.den, va0, IntKind.wrap, IntKind.bits, IntKind.signed, Bool.true_and, Bool.false_and, decide_eq_true_eq, ge_iff_le, Int.reducePow, Int.reduceToNat, Nat.reduceSub, Bool.false_eq_true, if_false]
  omega
theorem un16_8 : LeafU 118 16 8 ∧ LeafU 97 16 8 := leafU_agree (by decide) (by decide) rfl (by kernel_rfl)
theorem un32_7 : LeafU 118 32 7 ∧ LeafU 97 32 7 := leafU_two (by decide) (by decide) rfl (a := (.ite (.eq (.shr (.md (.var 0) 32) (.lit 31)) (.lit 0)) (.md (.var 0) 32) (.md (.wrap .u64 (.sub (.lit 0) (.md (.var 0) 32))) 32))) (b := (.ite (.eq (.lt (.wrap .i32 (.md (.var 0) 32)) (.lit 0)) (.lit 0)) (.md (.var 0) 32) (.md (.wrap .u64 (.sub (.lit 0) (.md (.var 0) 32))) 32))) (by kernel_rfl) fun x hx => by
  simp [inR, IntKind.min, IntKind.max, IntKind.signed, IntKind.bits] at hx
  simp only [SE.den, va0, IntKind.wrap, IntKind.bits, IntKind.signed, Bool.true_and, Bool.false_and, decide_eq_true_eq, ge_iff_le, Int.reducePow, Int.reduceToNat, Nat.reduceSub, Bool.false_eq_true, if_false]
  omega
theorem un32_8 : LeafU 118 32 8 ∧ LeafU 97 32 8 := leafU_agree (by decide) (by decide) rfl (by kernel_rfl)
theorem un64_7 : LeafU 118 64 7 ∧ LeafU 97 64 7 := leafU_two (by decide) (by decide) rfl (a := (.ite (.eq (.shr (.md (.var 0) 64) (.lit 63)) (.lit 0)) (.md (.var 0) 64) (.wrap .u64 (.sub (.lit 0) (.md (.var 0) 64))))) (b := (.ite (.eq (.lt (.wrap .i64 (.md (.var 0) 64)) (.lit 0)) (.lit 0)) (.md (.var 0) 64) (.wrap .u64 (.sub (.lit 0) (.md (.var 0) 64))))) (by kernel_rfl) fun x hx => by
  simp [inR, IntKind.min, IntKind.max, IntKind.signed, IntKind.bits] at hx
  simp only [SE.den, va0, IntKind.wrap, IntKind.bits, IntKind.signed, Bool.true_and, Bool.false_and, decide_eq_true_eq, ge_iff_le, Int.reducePow, Int.reduceToNat, Nat.reduceSub, Bool.false_eq_true, if_false]
  omega
theorem un64_8 : LeafU 118 64 8 ∧ LeafU 97 64 8 := leafU_agree (by decide) (by decide) rfl (by kernel_rfl)

end Sx
end Go.Proofs.YtfdggebddcoeeaaGreatDoor
end
