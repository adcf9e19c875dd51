/-
  How two floats stand, by the program: an expression over rungs and signs; what it stands for.
-/
import Derived.Test.YtfdggebddcoeeaaGreatDoorTyLf
import Derived.Test.YtfdggebddcoeeaaGreatDoorTyFo
set_option linter.unusedVariables false
set_option linter.unusedSimpArgs false
set_option maxRecDepth 100000
noncomputable section
namespace Go.Proofs.YtfdggebddcoeeaaGreatDoor
namespace Sx
open Go Go.RowKit
variable (E : Env)

/-- the format of so many bits -/
def fmtOf (n : Nat) : Ieee.Format := cond (Nat.beq n 32) Ieee.single Ieee.double
/-- the word of a number's lowest bits -/
def wordOf (n : Nat) (x : Int) : Nat := (x % 2 ^ n).toNat
theorem fmt_sign {n : Nat} (hn : n = 32 ∨ n = 64) : (fmtOf n).signWeight = 2 ^ (n - 1) := by rcases hn with rfl | rfl <;> decide
theorem fmt_exp {n : Nat} : 2 ≤ (fmtOf n).exponentBits := by unfold fmtOf; cases Nat.beq n 32 <;> decide
theorem word_rungOf {n : Nat} (hn : n = 32 ∨ n = 64) (x : Int) : ((Fx.rungOf (fmtOf n) (wordOf n x) : Nat) : Int) = x % 2 ^ (n - 1) := by
  unfold Fx.rungOf wordOf
  rw [fmt_sign hn]
  have h1 := emod_range x n
  have e : (((x % 2 ^ n).toNat % 2 ^ (n - 1) : Nat) : Int) = x % 2 ^ n % 2 ^ (n - 1) := by
    push_cast
    rw [Int.toNat_of_nonneg h1.1]
  rw [e, emod_emod_pow x (by omega)]
theorem word_negOf {n : Nat} (hn : n = 32 ∨ n = 64) (x : Int) : Fx.negOf (fmtOf n) (wordOf n x) = decide (ibit x (n - 1) = 1) := by
  unfold Fx.negOf wordOf
  rw [fmt_sign hn]
  have h1 := emod_range x n
  have e : (((x % 2 ^ n).toNat / 2 ^ (n - 1) % 2 : Nat) : Int) = ibit (x % 2 ^ n) (n - 1) := by
    unfold ibit
    push_cast
    rw [Int.toNat_of_nonneg h1.1]
  rw [ibit_mod x (by omega)] at e
  by_cases h : ibit x (n - 1) = 1
  · have : (x % 2 ^ n).toNat / 2 ^ (n - 1) % 2 = 1 := by rw [h] at e; exact_mod_cast e
    simp [this, h]
  · have : (x % 2 ^ n).toNat / 2 ^ (n - 1) % 2 ≠ 1 := fun h' => h (by rw [← e, h']; rfl)
    simp [this, h]

def infN (n : Nat) : Nat := (fmtOf n).infRung
def negE (n : Nat) (a : SE) : SE := mkNot (mkEq (mkAnd .u64 a (.lit (.ofNat (2 ^ (n - 1))))) (.lit 0))
def szE (n : Nat) (a : SE) : SE := mkMd a (n - 1)
def nanE (n : Nat) (a : SE) : SE := mkLt (.lit (.ofNat (infN n))) (szE n a)
def lessE (n : Nat) (a b : SE) : SE := mkIte (mkEq (mkOr .u64 (szE n a) (szE n b)) (.lit 0)) (.lit 0) (mkIte (mkNot (mkEqB (negE n a) (negE n b))) (negE n a) (mkIte (negE n a) (mkLt (szE n b) (szE n a)) (mkLt (szE n a) (szE n b))))
theorem pow_bit (k i : Nat) : ibit ((2 : Int) ^ k) i = if i = k then 1 else 0 := by
  have h : ((2 : Int) ^ k) = ((2 ^ k : Nat) : Int) := by push_cast; rfl
  rw [h, ibit_nat, Nat.testBit_two_pow]
  by_cases hk : k = i
  · simp [hk]
  · have : ¬ i = k := fun h => hk h.symm
    simp [hk, this]
theorem and_bit {x : Int} (hx : inR .u64 x) {k : Nat} (hk : k < 64) : bitsI .and .u64 x (2 ^ k) = 0 ↔ ibit x k = 0 := by
  have hb : ∀ i, i < 64 → ibit (bitsI .and .u64 x (2 ^ k)) i = ibit x i * (if i = k then 1 else 0) := fun i hi => by
    rw [ibit_and (k := .u64) rfl x _ hi, pow_bit]
  constructor
  · intro h
    have := hb k hk
    rw [h, ibit_zero'] at this
    simpa using this.symm
  · intro h
    refine eq_of_bits 64 (bitsI_range (k := .u64) rfl _ _) ⟨by decide, by decide⟩ fun i hi => ?_
    rw [hb i hi, ibit_zero']
    by_cases hik : i = k
    · rw [hik, h]; simp
    · simp [hik]
theorem negE_den {n : Nat} (hn : n = 32 ∨ n = 64) {a : SE} (ha : inR .u64 (a.den E)) : (negE n a).den E = if Fx.negOf (fmtOf n) (wordOf n (a.den E)) = true then 1 else 0 := by
  have hp : inR .u64 ((SE.lit (.ofNat (2 ^ (n - 1)))).den E) := by rcases hn with rfl | rfl <;> simp [SE.den, inR, IntKind.min, IntKind.max, IntKind.signed, IntKind.bits]
  have hl : (SE.lit (.ofNat (2 ^ (n - 1)))).den E = 2 ^ (n - 1) := by simp [SE.den]
  have h1 := and_bit ha (k := n - 1) (by omega)
  unfold negE
  rw [mkNot_den, mkEq_den, mkAnd_den E .u64 _ _ ha hp, hl, word_negOf hn]
  simp only [SE.den]
  rcases ibit_01 (a.den E) (n - 1) with h | h
  · simp [h1.2 h, h]
  · have : ¬ bitsI .and .u64 (a.den E) (2 ^ (n - 1)) = 0 := fun h' => by rw [h1.1 h'] at h; cases h
    simp [this, h]
theorem szE_den {n : Nat} (hn : n = 32 ∨ n = 64) (a : SE) : (szE n a).den E = (Fx.rungOf (fmtOf n) (wordOf n (a.den E)) : Nat) := by
  unfold szE
  rw [mkMd_den, word_rungOf hn]
theorem nanE_den {n : Nat} (hn : n = 32 ∨ n = 64) (a : SE) : (nanE n a).den E = if Fx.isNaN (fmtOf n) (wordOf n (a.den E)) = true then 1 else 0 := by
  unfold nanE Fx.isNaN
  rw [mkLt_den, szE_den E hn]
  simp only [SE.den, infN, Int.ofNat_eq_natCast]
  by_cases h : (fmtOf n).infRung < Fx.rungOf (fmtOf n) (wordOf n (a.den E))
  · have : (((fmtOf n).infRung : Nat) : Int) < ((Fx.rungOf (fmtOf n) (wordOf n (a.den E)) : Nat) : Int) := by exact_mod_cast h
    simp [h, this]
  · have : ¬ (((fmtOf n).infRung : Nat) : Int) < ((Fx.rungOf (fmtOf n) (wordOf n (a.den E)) : Nat) : Int) := by exact_mod_cast h
    simp [h, this]
theorem rung_u64 {n : Nat} (hn : n = 32 ∨ n = 64) (a : SE) : inR .u64 ((szE n a).den E) := by
  unfold szE
  rw [mkMd_den]
  exact u64_of_mod (by omega)
theorem or_zero_iff' {x y : Int} (hx : 0 ≤ x ∧ x < 2 ^ 64) (hy : 0 ≤ y ∧ y < 2 ^ 64) : bitsI .or .u64 x y = 0 ↔ x = 0 ∧ y = 0 := by
  constructor
  · intro h
    have hb : ∀ i, i < 64 → ibit x i = 0 ∧ ibit y i = 0 := fun i hi => by
      have h1 := ibit_or (k := .u64) rfl x y hi
      rw [h, ibit_zero'] at h1
      rcases ibit_01 x i with a | a <;> rcases ibit_01 y i with b | b <;> rw [a, b] at h1 <;> simp at h1
      exact ⟨a, b⟩
    exact ⟨eq_of_bits 64 hx ⟨by decide, by decide⟩ fun i hi => by rw [(hb i hi).1, ibit_zero'], eq_of_bits 64 hy ⟨by decide, by decide⟩ fun i hi => by rw [(hb i hi).2, ibit_zero']⟩
  · rintro ⟨rfl, rfl⟩
    rfl
theorem lessE_den {n : Nat} (hn : n = 32 ∨ n = 64) {a b : SE} (ha : inR .u64 (a.den E)) (hb : inR .u64 (b.den E)) : (lessE n a b).den E = if Fx.below (fmtOf n) (wordOf n (a.den E)) (wordOf n (b.den E)) = true then 1 else 0 := by
  have ra := rung_u64 E hn a
  have rb := rung_u64 E hn b
  have hz := or_zero_iff' (inR_unsigned (k := .u64) rfl ra) (inR_unsigned (k := .u64) rfl rb)
  unfold lessE Fx.below
  simp only [mkIte_den, mkEq_den, mkNot_den, mkEqB_den, mkLt_den]
  rw [mkOr_den E .u64 _ _ ra rb]
  simp only [negE_den E hn ha, negE_den E hn hb]
  rw [szE_den E hn, szE_den E hn] at hz ⊢
  generalize Fx.rungOf (fmtOf n) (wordOf n (a.den E)) = p at *
  generalize Fx.rungOf (fmtOf n) (wordOf n (b.den E)) = q at *
  simp only [SE.den]
  by_cases h0 : bitsI .or .u64 (p : Int) (q : Int) = 0
  · obtain ⟨h1, h2⟩ := hz.1 h0
    have h1' : p = 0 := by exact_mod_cast h1
    have h2' : q = 0 := by exact_mod_cast h2
    subst h1' h2'
    cases Fx.negOf (fmtOf n) (wordOf n (a.den E)) <;> cases Fx.negOf (fmtOf n) (wordOf n (b.den E)) <;> simp [show bitsI .or .u64 (0 : Int) 0 = 0 from rfl]
  · have h3 : ¬ (p = 0 ∧ q = 0) := fun h => h0 (hz.2 ⟨by exact_mod_cast h.1, by exact_mod_cast h.2⟩)
    cases Fx.negOf (fmtOf n) (wordOf n (a.den E)) <;> cases Fx.negOf (fmtOf n) (wordOf n (b.den E)) <;> simp [h0, h3]

/-- how two stand -/
def relF (o : Option Ordering) (op : Nat) : Bool := match op with
  | 1 => o == some .eq
  | 2 => o != some .eq
  | 3 => o == some .lt
  | 4 => o == some .gt
  | 5 => o == some .lt || o == some .eq
  | _ => o == some .gt || o == some .eq
def relE (n op : Nat) (a b : SE) : SE := mkIte (mkIte (nanE n a) (.lit 1) (nanE n b)) (.lit (cond (Nat.beq op 2) 1 0)) (match op with
  | 1 => mkIte (mkNot (lessE n a b)) (mkNot (lessE n b a)) (.lit 0)
  | 2 => mkIte (lessE n a b) (.lit 1) (lessE n b a)
  | 3 => lessE n a b
  | 4 => lessE n b a
  | 5 => mkNot (lessE n b a)
  | _ => mkNot (lessE n a b))
def FR (n op : Nat) (x y : Int) : Bool := relF ((fmtOf n).order (wordOf n x) (wordOf n y)) op
theorem relE_den {n op : Nat} (hn : n = 32 ∨ n = 64) (ho : 1 ≤ op ∧ op ≤ 6) {a b : SE} (ha : inR .u64 (a.den E)) (hb : inR .u64 (b.den E)) : (relE n op a b).den E = if FR n op (a.den E) (b.den E) = true then 1 else 0 := by
  have hlt := Fx.order_lt (fmtOf n) fmt_exp (wordOf n (a.den E)) (wordOf n (b.den E))
  have hgt := Fx.order_gt (fmtOf n) fmt_exp (wordOf n (a.den E)) (wordOf n (b.den E))
  have heq := Fx.order_eq' (fmtOf n) fmt_exp (wordOf n (a.den E)) (wordOf n (b.den E))
  have hno := Fx.order_none (fmtOf n) fmt_exp (wordOf n (a.den E)) (wordOf n (b.den E))
  unfold relE FR
  have hops : op = 1 ∨ op = 2 ∨ op = 3 ∨ op = 4 ∨ op = 5 ∨ op = 6 := by omega
  cases hna : Fx.isNaN (fmtOf n) (wordOf n (a.den E)) <;> cases hnb : Fx.isNaN (fmtOf n) (wordOf n (b.den E)) <;> rw [hna, hnb] at hlt hgt heq hno <;>
    cases hl : Fx.below (fmtOf n) (wordOf n (a.den E)) (wordOf n (b.den E)) <;> cases hg : Fx.below (fmtOf n) (wordOf n (b.den E)) (wordOf n (a.den E)) <;> rw [hl, hg] at heq <;> rw [hl] at hlt <;> rw [hg] at hgt <;>
    cases ho' : (fmtOf n).order (wordOf n (a.den E)) (wordOf n (b.den E)) <;> (try rename_i oo; cases oo) <;> rw [ho'] at hlt hgt heq hno <;> simp at hlt hgt heq hno <;>
    rcases hops with rfl | rfl | rfl | rfl | rfl | rfl <;> simp [mkIte_den, mkNot_den, nanE_den E hn, lessE_den E hn ha hb, lessE_den E hn hb ha, hna, hnb, hl, hg, relF, SE.den]
  all_goals rfl

end Sx
end Go.Proofs.YtfdggebddcoeeaaGreatDoor
end
