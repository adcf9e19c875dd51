/-
  Expressions bit by bit: two whole numbers below 2^n are one if all their bits are; a bit of an expression as a formula over bits of what it is made of.
-/
import Derived.Test.YtfdggebddcoeeaaGreatDoorTyA
set_option linter.unusedVariables false
set_option linter.unusedSimpArgs false
namespace Go.Proofs.YtfdggebddcoeeaaGreatDoor
namespace Sx
open Go

/-- bit i -/
def ibit (x : Int) (i : Nat) : Int := x / 2 ^ i % 2
theorem ibit_01 (x : Int) (i : Nat) : ibit x i = 0 ∨ ibit x i = 1 := by unfold ibit; omega
theorem ibit_zero (x : Int) : ibit x 0 = x % 2 := by simp [ibit]
theorem ibit_succ (x : Int) (i : Nat) : ibit x (i + 1) = ibit (x / 2) i := by
  unfold ibit
  rw [Int.ediv_ediv_of_nonneg (by decide : (0 : Int) ≤ 2), Int.pow_succ, Int.mul_comm]
theorem eq_of_bits : ∀ (n : Nat) {x y : Int}, (0 ≤ x ∧ x < 2 ^ n) → (0 ≤ y ∧ y < 2 ^ n) → (∀ i, i < n → ibit x i = ibit y i) → x = y := by
  intro n
  induction n with
  | zero => intro x y hx hy _; simp at hx hy; omega
  | succ n ih =>
    intro x y hx hy h
    have h0 := h 0 (by omega)
    rw [ibit_zero, ibit_zero] at h0
    rw [Int.pow_succ] at hx hy
    have h1 := ih (x := x / 2) (y := y / 2) ⟨by omega, by omega⟩ ⟨by omega, by omega⟩ fun i hi => by
      rw [← ibit_succ, ← ibit_succ]; exact h (i + 1) (by omega)
    omega
theorem ibit_big {x : Int} {n i : Nat} (h : 0 ≤ x ∧ x < 2 ^ n) (hi : n ≤ i) : ibit x i = 0 := by
  unfold ibit
  rw [Int.ediv_eq_zero_of_lt h.1 (Int.lt_of_lt_of_le h.2 (two_pow_mono hi))]
  rfl
theorem ibit_mod (x : Int) {n i : Nat} (h : i < n) : ibit (x % 2 ^ n) i = ibit x i := by
  have hi := two_pow_pos i
  have e : (2 : Int) ^ n = 2 ^ i * (2 * 2 ^ (n - i - 1)) := by
    have : (2 : Int) * 2 ^ (n - i - 1) = 2 ^ (n - i) := by
      rw [Int.mul_comm, ← Int.pow_succ]; congr 1; omega
    rw [this, ← Int.pow_add]; congr 1; omega
  have hx : x = x % 2 ^ n + 2 ^ i * (2 * (2 ^ (n - i - 1) * (x / 2 ^ n))) := by
    have h1 := (Int.emod_add_mul_ediv x (2 ^ n)).symm
    have h2 : (2 : Int) ^ n * (x / 2 ^ n) = 2 ^ i * (2 * (2 ^ (n - i - 1) * (x / 2 ^ n))) := by
      conv => lhs; rw [e]
      simp only [Int.mul_assoc]
      rw [← e]
    rw [← h2]
    exact h1
  unfold ibit
  have h3 : x / 2 ^ i = x % 2 ^ n / 2 ^ i + 2 * (2 ^ (n - i - 1) * (x / 2 ^ n)) := by
    conv => lhs; rw [hx]
    exact Int.add_mul_ediv_left _ _ (by omega)
  rw [h3, Int.add_mul_emod_self_left]
theorem ibit_cat_low (x r : Int) {b i : Nat} (h : i < b) : ibit (x % 2 ^ b + 2 ^ b * r) i = ibit x i := by
  rw [← ibit_mod _ h, cat_emod_low x r (Nat.le_refl b), ibit_mod _ h]
theorem ibit_cat_high (x r : Int) {b i : Nat} (h : b ≤ i) : ibit (x % 2 ^ b + 2 ^ b * r) i = ibit r (i - b) := by
  unfold ibit
  rw [cat_ediv x r h]
theorem ibit_shr (x : Int) (m i : Nat) : ibit (x / 2 ^ m) i = ibit x (i + m) := by
  unfold ibit
  rw [Int.ediv_ediv_of_nonneg (Int.le_of_lt (two_pow_pos m)), ← Int.pow_add, Nat.add_comm]
theorem shl_cat (x : Int) (m : Nat) : x * 2 ^ m = 0 % 2 ^ m + 2 ^ m * x := by
  rw [Int.zero_emod, Int.zero_add, Int.mul_comm]
theorem ibit_zero' (i : Nat) : ibit 0 i = 0 := by simp [ibit]
theorem ibit_shl_low (x : Int) {m i : Nat} (h : i < m) : ibit (x * 2 ^ m) i = 0 := by rw [shl_cat, ibit_cat_low _ _ h, ibit_zero']
theorem ibit_shl_high (x : Int) {m i : Nat} (h : m ≤ i) : ibit (x * 2 ^ m) i = ibit x (i - m) := by rw [shl_cat, ibit_cat_high _ _ h]
theorem ibit_nat (n i : Nat) : ibit (n : Int) i = if n.testBit i then 1 else 0 := by
  have h : ibit (n : Int) i = ((n / 2 ^ i % 2 : Nat) : Int) := by unfold ibit; push_cast; rfl
  rw [h, Nat.testBit_eq_decide_div_mod_eq]
  have := Nat.mod_lt (n / 2 ^ i) (show 0 < 2 by decide)
  by_cases h1 : n / 2 ^ i % 2 = 1
  · simp [h1]
  · have : n / 2 ^ i % 2 = 0 := by omega
    simp [this]
theorem ibit_wrap_low (k : IntKind) (x : Int) {i : Nat} (h : i < k.bits) : ibit (k.wrap x) i = ibit x i := by
  simp only [IntKind.wrap]
  split
  · have e : x % 2 ^ k.bits - 2 ^ k.bits = x % 2 ^ k.bits + 2 ^ k.bits * (-1) := by omega
    rw [e, ibit_cat_low _ _ h]
  · exact ibit_mod x h
theorem ibit_sign {y : Int} {m i : Nat} (h : -(2 : Int) ^ m ≤ y ∧ y < 2 ^ m) (hi : m ≤ i) : ibit y i = if y < 0 then 1 else 0 := by
  have hm := two_pow_mono hi
  have hp := two_pow_pos i
  unfold ibit
  by_cases hy : y < 0
  · have : y / 2 ^ i = -1 := by
      apply (Int.ediv_eq_iff_of_pos hp).2
      omega
    rw [this, if_pos hy]; rfl
  · rw [Int.ediv_eq_zero_of_lt (by omega) (by omega), if_neg hy]; rfl
theorem wrap_signed_range {k : IntKind} (h : k.signed = true) (x : Int) : -(2 : Int) ^ (k.bits - 1) ≤ k.wrap x ∧ k.wrap x < 2 ^ (k.bits - 1) := by
  cases k <;> simp [IntKind.signed] at h <;> simp [IntKind.wrap, IntKind.bits, IntKind.signed] <;> omega
theorem ibit_wrap_high {k : IntKind} (hs : k.signed = true) (x : Int) {i : Nat} (h : k.bits - 1 ≤ i) : ibit (k.wrap x) i = ibit x (k.bits - 1) := by
  have hb : k.bits - 1 < k.bits := by cases k <;> decide
  have hr := wrap_signed_range hs x
  rw [ibit_sign hr h, ← ibit_wrap_low k x hb, ibit_sign hr (Nat.le_refl _)]
theorem ibit_wrap_high_u {k : IntKind} (hs : k.signed = false) (x : Int) {i : Nat} (h : k.bits ≤ i) : ibit (k.wrap x) i = 0 := by
  rw [wrap_unsigned hs]
  exact ibit_big (emod_range x k.bits) h
theorem ofInt_bit (w : Nat) (x : Int) {i : Nat} (h : i < w) : (if (BitVec.ofInt w x).toNat.testBit i then (1 : Int) else 0) = ibit x i := by
  rw [← ibit_nat, ofInt_toNat, ibit_mod x h]
theorem bitsI_eq {o : BinOp} {k : IntKind} (hs : k.signed = false) (x y : Int) : bitsI o k x y = ((match o with
  | .and => (BitVec.ofInt k.bits x &&& BitVec.ofInt k.bits y).toNat
  | .or => (BitVec.ofInt k.bits x ||| BitVec.ofInt k.bits y).toNat
  | .xor => (BitVec.ofInt k.bits x ^^^ BitVec.ofInt k.bits y).toNat
  | _ => (BitVec.ofInt k.bits x &&& ~~~BitVec.ofInt k.bits y).toNat : Nat) : Int) := by
  have hb : ∀ v : BitVec k.bits, ((v.toNat : Int)) % 2 ^ k.bits = (v.toNat : Int) := fun v => by
    apply Int.emod_eq_of_lt (by omega)
    have := v.isLt
    exact_mod_cast this
  unfold bitsI
  rw [wrap_unsigned hs]
  cases o <;> exact hb _
theorem ibit_and {k : IntKind} (hs : k.signed = false) (x y : Int) {i : Nat} (h : i < k.bits) : ibit (bitsI .and k x y) i = ibit x i * ibit y i := by
  rw [bitsI_eq hs, ibit_nat, BitVec.toNat_and, Nat.testBit_and, ← ofInt_bit _ x h, ← ofInt_bit _ y h]
  cases (BitVec.ofInt k.bits x).toNat.testBit i <;> cases (BitVec.ofInt k.bits y).toNat.testBit i <;> rfl
theorem ibit_or {k : IntKind} (hs : k.signed = false) (x y : Int) {i : Nat} (h : i < k.bits) : ibit (bitsI .or k x y) i = ibit x i + ibit y i - ibit x i * ibit y i := by
  rw [bitsI_eq hs, ibit_nat, BitVec.toNat_or, Nat.testBit_or, ← ofInt_bit _ x h, ← ofInt_bit _ y h]
  cases (BitVec.ofInt k.bits x).toNat.testBit i <;> cases (BitVec.ofInt k.bits y).toNat.testBit i <;> rfl
theorem ibit_xor {k : IntKind} (hs : k.signed = false) (x y : Int) {i : Nat} (h : i < k.bits) : ibit (bitsI .xor k x y) i = (ibit x i + ibit y i) % 2 := by
  rw [bitsI_eq hs, ibit_nat, BitVec.toNat_xor, Nat.testBit_xor, ← ofInt_bit _ x h, ← ofInt_bit _ y h]
  cases (BitVec.ofInt k.bits x).toNat.testBit i <;> cases (BitVec.ofInt k.bits y).toNat.testBit i <;> rfl
theorem ibit_andNot {k : IntKind} (hs : k.signed = false) (x y : Int) {i : Nat} (h : i < k.bits) : ibit (bitsI .andNot k x y) i = ibit x i * (1 - ibit y i) := by
  rw [bitsI_eq hs, ibit_nat, ← ofInt_bit _ x h, ← ofInt_bit _ y h]
  have e1 : ∀ v : BitVec k.bits, v.toNat.testBit i = v.getLsbD i := fun v => rfl
  simp only [e1, BitVec.getLsbD_and, BitVec.getLsbD_not, h, decide_true, Bool.true_and]
  cases (BitVec.ofInt k.bits x).getLsbD i <;> cases (BitVec.ofInt k.bits y).getLsbD i <;> rfl
theorem bitsI_range {o : BinOp} {k : IntKind} (hs : k.signed = false) (x y : Int) : 0 ≤ bitsI o k x y ∧ bitsI o k x y < 2 ^ k.bits := by
  unfold bitsI
  rw [wrap_unsigned hs]
  exact emod_range _ _
theorem not_sub {e : Int} {m : Nat} (h : 0 ≤ e ∧ e < 2 ^ m) : ∀ {i : Nat}, i < m → ibit (2 ^ m - 1 - e) i = 1 - ibit e i := by
  induction m generalizing e with
  | zero => intro i hi; omega
  | succ m ih =>
    intro i hi
    rw [Int.pow_succ] at h ⊢
    cases i with
    | zero =>
      rw [ibit_zero, ibit_zero]
      omega
    | succ i =>
      rw [ibit_succ, ibit_succ, ← ih (e := e / 2) ⟨by omega, by omega⟩ (by omega)]
      congr 1
      omega

/-! formulas -/
inductive BF where
  | c (b : Bool)
  | g (e : SE) (k : Nat)
  | not (a : BF)
  | and (a b : BF)
  | or (a b : BF)
  | xor (a b : BF)
def BF.val (E : Env) : BF → Int
  | .c b => cond b 1 0
  | .g e k => ibit (e.den E) k
  | .not a => 1 - a.val E
  | .and a b => a.val E * b.val E
  | .or a b => a.val E + b.val E - a.val E * b.val E
  | .xor a b => (a.val E + b.val E) % 2
variable (E : Env)
theorem BF.val01 : ∀ f : BF, f.val E = 0 ∨ f.val E = 1 := by
  intro f
  induction f with
  | c b => cases b <;> simp [BF.val]
  | g e k => exact ibit_01 _ _
  | not a ih => rcases ih with h | h <;> simp [BF.val, h]
  | and a b iha ihb => rcases iha with h | h <;> rcases ihb with h' | h' <;> simp [BF.val, h, h']
  | or a b iha ihb => rcases iha with h | h <;> rcases ihb with h' | h' <;> simp [BF.val, h, h']
  | xor a b iha ihb => simp only [BF.val]; omega
def mkNotB : BF → BF
  | .c b => .c (not b)
  | .not a => a
  | f => .not f
theorem mkNotB_val (f : BF) : (mkNotB f).val E = 1 - f.val E := by
  cases f <;> try rfl
  · rename_i b; cases b <;> rfl
  · simp only [mkNotB, BF.val]; omega
def mkAndB (a b : BF) : BF := match a with
  | .c x => cond x b (.c false)
  | a => match b with
    | .c y => cond y a (.c false)
    | b => .and a b
theorem mkAndB_val (a b : BF) : (mkAndB a b).val E = a.val E * b.val E := by
  unfold mkAndB
  split
  · rename_i x; cases x <;> simp [BF.val]
  · split
    · rename_i y; cases y <;> simp [BF.val]
    · rfl
def mkOrB (a b : BF) : BF := match a with
  | .c x => cond x (.c true) b
  | a => match b with
    | .c y => cond y (.c true) a
    | b => .or a b
theorem mkOrB_val (a b : BF) : (mkOrB a b).val E = a.val E + b.val E - a.val E * b.val E := by
  unfold mkOrB
  split
  · rename_i x; cases x <;> simp [BF.val] <;> omega
  · split
    · rename_i y; cases y <;> simp [BF.val] <;> omega
    · rfl
def mkXorB (a b : BF) : BF := match a with
  | .c x => cond x (mkNotB b) b
  | a => match b with
    | .c y => cond y (mkNotB a) a
    | b => .xor a b
theorem mkXorB_val (a b : BF) : (mkXorB a b).val E = (a.val E + b.val E) % 2 := by
  have h1 := BF.val01 E a
  have h2 := BF.val01 E b
  unfold mkXorB
  split
  · rename_i x
    cases x <;> simp only [cond, mkNotB_val, BF.val] at * <;> omega
  · split
    · rename_i y
      cases y <;> simp only [cond, mkNotB_val, BF.val] at * <;> omega
    · rfl
def BF.beq : BF → BF → Bool
  | .c a, .c b => a == b
  | .g e k, .g f l => cond (Nat.beq k l) (SE.beq e f) false
  | .not a, .not b => a.beq b
  | .and a b, .and x y => cond (a.beq x) (b.beq y) false
  | .or a b, .or x y => cond (a.beq x) (b.beq y) false
  | .xor a b, .xor x y => cond (a.beq x) (b.beq y) false
  | _, _ => false
theorem BF.beq_eq : ∀ {a b : BF}, a.beq b = true → a = b := by
  intro a
  induction a with
  | c x => intro b h; cases b <;> simp only [BF.beq, Bool.false_eq_true] at h; simp at h; rw [h]
  | g e k =>
    intro b h
    cases b <;> simp only [BF.beq, Bool.false_eq_true] at h
    rename_i e' l
    cases h1 : Nat.beq k l <;> rw [h1] at h
    · cases h
    · rw [Nat.eq_of_beq_eq_true h1, SE.beq_eq h]
  | not a ih => intro b h; cases b <;> simp only [BF.beq, Bool.false_eq_true] at h; rw [ih h]
  | and a b iha ihb =>
    intro x h
    cases x <;> simp only [BF.beq, Bool.false_eq_true] at h
    rename_i y z
    cases h1 : a.beq y <;> rw [h1] at h
    · cases h
    · rw [iha h1, ihb h]
  | or a b iha ihb =>
    intro x h
    cases x <;> simp only [BF.beq, Bool.false_eq_true] at h
    rename_i y z
    cases h1 : a.beq y <;> rw [h1] at h
    · cases h
    · rw [iha h1, ihb h]
  | xor a b iha ihb =>
    intro x h
    cases x <;> simp only [BF.beq, Bool.false_eq_true] at h
    rename_i y z
    cases h1 : a.beq y <;> rw [h1] at h
    · cases h
    · rw [iha h1, ihb h]

/-! the bits of an expression -/
def litBit (n : Int) (e : SE) (i : Nat) : BF := match n with
  | .ofNat m => .c (Nat.beq (Nat.mod (Nat.div m (Nat.pow 2 i)) 2) 1)
  | .negSucc _ => .g e i
def bitAt : SE → Nat → BF
  | .lit n, i => litBit n (.lit n) i
  | .md a b, i => cond (Nat.blt i b) (bitAt a i) (.c false)
  | .shr a n, i => match n with
    | .lit l => match l with
      | .ofNat m => bitAt a (Nat.add i m)
      | .negSucc m => .g (.shr a (.lit (.negSucc m))) i
    | n => .g (.shr a n) i
  | .shl a n, i => match n with
    | .lit l => match l with
      | .ofNat m => cond (Nat.blt i m) (.c false) (bitAt a (Nat.sub i m))
      | .negSucc m => .g (.shl a (.lit (.negSucc m))) i
    | n => .g (.shl a n) i
  | .cat x b r, i => cond (Nat.blt i b) (bitAt x i) (bitAt r (Nat.sub i b))
  | .wrap k a, i => cond (Nat.blt i k.bits) (bitAt a i) (cond k.signed (bitAt a (Nat.sub k.bits 1)) (.c false))
  | .bit o k a b, i => cond k.signed (.g (.bit o k a b) i) (cond (Nat.blt i k.bits) (match o with
    | .and => mkAndB (bitAt a i) (bitAt b i)
    | .or => mkOrB (bitAt a i) (bitAt b i)
    | .xor => mkXorB (bitAt a i) (bitAt b i)
    | .andNot => mkAndB (bitAt a i) (mkNotB (bitAt b i))
    | o => .g (.bit o k a b) i) (.c false))
  | .sub a b, i => match a with
    | .lit l => match l with
      | .ofNat n => match lg (Nat.succ n) with
        | some m => cond (leO (ub b) m) (cond (Nat.blt i m) (mkNotB (bitAt b i)) (.c false)) (.g (.sub (.lit (.ofNat n)) b) i)
        | none => .g (.sub (.lit (.ofNat n)) b) i
      | .negSucc n => .g (.sub (.lit (.negSucc n)) b) i
    | a => .g (.sub a b) i
  | e, i => .g e i
theorem blt_not {i n : Nat} (h : Nat.blt i n = false) : n ≤ i := by
  rcases Nat.lt_or_ge i n with h' | h'
  · have : Nat.blt i n = true := by simp [Nat.blt_eq, h']
    rw [this] at h; cases h
  · exact h'
theorem blt_yes {i n : Nat} (h : Nat.blt i n = true) : i < n := by simpa [Nat.blt_eq] using h
theorem bitAt_ok (e : SE) : ∀ i, (bitAt e i).val E = ibit (e.den E) i := by
  induction e <;> intro i <;> try rfl
  case lit n =>
    cases n with
    | negSucc m => rfl
    | ofNat m =>
      show (cond (Nat.beq (Nat.mod (Nat.div m (Nat.pow 2 i)) 2) 1) 1 0 : Int) = ibit (m : Int) i
      rw [ibit_nat, Nat.testBit_eq_decide_div_mod_eq]
      have e1 : Nat.mod (Nat.div m (Nat.pow 2 i)) 2 = m / 2 ^ i % 2 := rfl
      rw [e1]
      by_cases h : m / 2 ^ i % 2 = 1
      · simp [h]
      · have : Nat.beq (m / 2 ^ i % 2) 1 = false := by
          cases hb : Nat.beq (m / 2 ^ i % 2) 1
          · rfl
          · exact absurd (Nat.eq_of_beq_eq_true hb) h
        simp [this, h]
  case sub a b iha ihb =>
    simp only [bitAt]
    split
    · split
      · rename_i n
        cases hl : lg (Nat.succ n) with
        | none => rfl
        | some m =>
          simp only
          have hm : ((n : Nat) : Int) = 2 ^ m - 1 := by
            have := lg_ok hl
            have e2 : ((n + 1 : Nat) : Int) = ((2 ^ m : Nat) : Int) := by exact_mod_cast this
            push_cast at e2
            omega
          cases hle : leO (ub b) m
          · rfl
          · have hr := leO_ok E hle
            simp only [cond, SE.den, Int.ofNat_eq_natCast, hm]
            cases hlt : Nat.blt i m
            · simp only [BF.val, cond]
              exact (ibit_big ⟨by omega, by omega⟩ (blt_not hlt)).symm
            · simp only [mkNotB_val, ihb]
              exact (not_sub hr (blt_yes hlt)).symm
      · rfl
    · rfl
  case shr a n iha _ =>
    simp only [bitAt]
    split
    · split
      · simp only [iha, SE.den, Int.ofNat_eq_natCast, Int.toNat_natCast]
        exact (ibit_shr _ _ _).symm
      · rfl
    · rfl
  case shl a n iha _ =>
    simp only [bitAt]
    split
    · split
      · rename_i m _
        simp only [SE.den, Int.ofNat_eq_natCast, Int.toNat_natCast]
        cases hlt : Nat.blt i m
        · simp only [cond, iha]
          exact (ibit_shl_high _ (blt_not hlt)).symm
        · simp only [cond, BF.val]
          exact (ibit_shl_low _ (blt_yes hlt)).symm
      · rfl
    · rfl
  case md a b ih =>
    simp only [bitAt, SE.den]
    cases hlt : Nat.blt i b
    · simp only [cond, BF.val]
      exact (ibit_big (emod_range _ _) (blt_not hlt)).symm
    · simp only [cond, ih]
      exact (ibit_mod _ (blt_yes hlt)).symm
  case wrap k a ih =>
    simp only [bitAt, SE.den]
    cases hlt : Nat.blt i k.bits
    · cases hs : k.signed
      · simp only [cond, BF.val]
        exact (ibit_wrap_high_u hs _ (blt_not hlt)).symm
      · simp only [cond, ih]
        have := blt_not hlt
        exact (ibit_wrap_high hs _ (by omega)).symm
    · simp only [cond, ih]
      exact (ibit_wrap_low k _ (blt_yes hlt)).symm
  case bit o k a b iha ihb =>
    simp only [bitAt, SE.den]
    cases hs : k.signed
    · simp only [cond]
      cases hlt : Nat.blt i k.bits
      · simp only [BF.val, cond]
        exact (ibit_big (bitsI_range hs _ _) (blt_not hlt)).symm
      · have hi := blt_yes hlt
        simp only
        cases o <;> try rfl
        · simp only [mkAndB_val, iha, ihb]; exact (ibit_and hs _ _ hi).symm
        · simp only [mkOrB_val, iha, ihb]; exact (ibit_or hs _ _ hi).symm
        · simp only [mkXorB_val, iha, ihb]; exact (ibit_xor hs _ _ hi).symm
        · simp only [mkAndB_val, mkNotB_val, iha, ihb]; exact (ibit_andNot hs _ _ hi).symm
    · rfl
  case cat x b r ihx ihr =>
    simp only [bitAt, SE.den]
    cases hlt : Nat.blt i b
    · simp only [cond, ihr]
      exact (ibit_cat_high _ _ (blt_not hlt)).symm
    · simp only [cond, ihx]
      exact (ibit_cat_low _ _ (blt_yes hlt)).symm
def allN (f : Nat → Bool) : Nat → Bool
  | 0 => true
  | n + 1 => cond (f n) (allN f n) false
theorem allN_ok {f : Nat → Bool} : ∀ {n : Nat}, allN f n = true → ∀ i, i < n → f i = true := by
  intro n
  induction n with
  | zero => intro _ i hi; omega
  | succ n ih =>
    intro h i hi
    simp only [allN] at h
    cases hf : f n <;> rw [hf] at h
    · cases h
    · rcases Nat.lt_succ_iff_lt_or_eq.1 hi with h' | rfl
      · exact ih h i h'
      · exact hf
/-- two bits' sum held against a number -/
def twoBits (p q : SE) (n : Nat) (d : BF) : BF := cond (leO (ub p) 1) (cond (leO (ub q) 1) (match n with
  | 0 => d
  | n + 1 => match n with
    | 0 => mkXorB (bitAt p 0) (bitAt q 0)
    | n + 1 => match n with
      | 0 => mkAndB (bitAt p 0) (bitAt q 0)
      | _ => d) d) d
def bitEq (a b : SE) (d : BF) : BF := match a with
  | .wrap k s => match k with
    | .u64 => match s with
      | .add p q => match b with
        | .lit l => match l with
          | .ofNat n => twoBits p q n d
          | .negSucc _ => d
        | _ => d
      | _ => d
    | _ => d
  | _ => d
def bitLt (a b : SE) (d : BF) : BF := match b with
  | .wrap k s => match k with
    | .u64 => match s with
      | .add p q => match a with
        | .lit l => match l with
          | .ofNat n => match n with
            | 0 => cond (leO (ub p) 1) (cond (leO (ub q) 1) (mkOrB (bitAt p 0) (bitAt q 0)) d) d
            | _ => d
          | .negSucc _ => d
        | _ => d
      | _ => d
    | _ => d
  | _ => d
def bitQ (e : SE) (i : Nat) : BF := match e with
  | .eq a b => match i with
    | 0 => bitEq a b (.g (.eq a b) 0)
    | _ + 1 => .c false
  | .lt a b => match i with
    | 0 => bitLt a b (.g (.lt a b) 0)
    | _ + 1 => .c false
  | e => bitAt e i
def bitC : SE → Nat → BF
  | .cat x b r, i => cond (Nat.blt i b) (bitQ x i) (bitC r (Nat.sub i b))
  | e, i => bitQ e i
theorem bit1 {p : SE} (h : leO (ub p) 1 = true) : p.den E = 0 ∨ p.den E = 1 := by
  have := leO_ok E h
  omega
theorem bitAt_one {p : SE} (h : leO (ub p) 1 = true) : (bitAt p 0).val E = p.den E := by
  rw [bitAt_ok, ibit_zero]
  have := bit1 E h
  omega
theorem wrap_two {p q : SE} (hp : leO (ub p) 1 = true) (hq : leO (ub q) 1 = true) : (SE.wrap .u64 (.add p q)).den E = p.den E + q.den E := by
  have h1 := bit1 E hp
  have h2 := bit1 E hq
  simp only [SE.den, wrap_unsigned (k := .u64) rfl]
  apply Int.emod_eq_of_lt (by omega)
  simp only [IntKind.bits]
  omega
theorem bit_bool (x : Int) (h : x = 0 ∨ x = 1) : ibit x 0 = x := by rw [ibit_zero]; omega
theorem den_eq01 (a b : SE) : (SE.eq a b).den E = 0 ∨ (SE.eq a b).den E = 1 := by
  by_cases h : a.den E = b.den E <;> simp [SE.den, h]
theorem den_lt01 (a b : SE) : (SE.lt a b).den E = 0 ∨ (SE.lt a b).den E = 1 := by
  by_cases h : a.den E < b.den E <;> simp [SE.den, h]
theorem bitEq_ok (a b : SE) : (bitEq a b (.g (.eq a b) 0)).val E = ibit ((SE.eq a b).den E) 0 := by
  unfold bitEq
  repeat' split
  all_goals try rfl
  rename_i p q _ _ n
  unfold twoBits
  cases hp : leO (ub p) 1 <;> try rfl
  cases hq : leO (ub q) 1 <;> try rfl
  have h1 := bit1 E hp
  have h2 := bit1 E hq
  simp only [Bool.cond_true]
  repeat' split
  all_goals try rfl
  · rw [bit_bool _ (den_eq01 E _ _), mkXorB_val, bitAt_one E hp, bitAt_one E hq]
    have := wrap_two E hp hq
    show _ = if (SE.wrap .u64 (.add p q)).den E = _ then (1 : Int) else 0
    rw [this]
    simp only [SE.den]
    rcases h1 with h1 | h1 <;> rcases h2 with h2 | h2 <;> rw [h1, h2] <;> rfl
  · rw [bit_bool _ (den_eq01 E _ _), mkAndB_val, bitAt_one E hp, bitAt_one E hq]
    have := wrap_two E hp hq
    show _ = if (SE.wrap .u64 (.add p q)).den E = _ then (1 : Int) else 0
    rw [this]
    simp only [SE.den]
    rcases h1 with h1 | h1 <;> rcases h2 with h2 | h2 <;> rw [h1, h2] <;> rfl
theorem bitLt_ok (a b : SE) : (bitLt a b (.g (.lt a b) 0)).val E = ibit ((SE.lt a b).den E) 0 := by
  unfold bitLt
  repeat' split
  all_goals try rfl
  rename_i p q _ _ _
  cases hp : leO (ub p) 1 <;> try rfl
  cases hq : leO (ub q) 1 <;> try rfl
  have h1 := bit1 E hp
  have h2 := bit1 E hq
  simp only [Bool.cond_true]
  rw [bit_bool _ (den_lt01 E _ _), mkOrB_val, bitAt_one E hp, bitAt_one E hq]
  have := wrap_two E hp hq
  show _ = if _ < (SE.wrap .u64 (.add p q)).den E then (1 : Int) else 0
  rw [this]
  simp only [SE.den]
  rcases h1 with h1 | h1 <;> rcases h2 with h2 | h2 <;> rw [h1, h2] <;> rfl
theorem bitQ_ok (e : SE) (i : Nat) : (bitQ e i).val E = ibit (e.den E) i := by
  unfold bitQ
  split
  · split
    · exact bitEq_ok E _ _
    · refine (ibit_big (n := 1) ?_ (by omega)).symm
      simp only [SE.den]; split <;> simp
  · split
    · exact bitLt_ok E _ _
    · refine (ibit_big (n := 1) ?_ (by omega)).symm
      simp only [SE.den]; split <;> simp
  · exact bitAt_ok E _ _
theorem bitC_ok (e : SE) : ∀ i, (bitC e i).val E = ibit (e.den E) i := by
  induction e <;> intro i <;> try exact bitQ_ok E _ i
  case cat x b r _ ihr =>
    simp only [bitC, SE.den]
    cases hlt : Nat.blt i b
    · simp only [cond, ihr]
      exact (ibit_cat_high _ _ (blt_not hlt)).symm
    · simp only [cond, bitQ_ok]
      exact (ibit_cat_low _ _ (blt_yes hlt)).symm
/-- are two expressions below 2^n the same, bit by bit? -/
def sameBits (n : Nat) (a b : SE) : Bool := cond (leO (ub a) n) (cond (leO (ub b) n) (allN (fun i => BF.beq (bitC a i) (bitC b i)) n) false) false
theorem sameBits_ok {n : Nat} {a b : SE} (h : sameBits n a b = true) : a.den E = b.den E := by
  unfold sameBits at h
  cases h1 : leO (ub a) n <;> rw [h1] at h <;> try (cases h; done)
  cases h2 : leO (ub b) n <;> rw [h2] at h <;> try (cases h; done)
  refine eq_of_bits n (leO_ok E h1) (leO_ok E h2) fun i hi => ?_
  rw [← bitC_ok, ← bitC_ok, BF.beq_eq (allN_ok h i hi)]

end Sx
end Go.Proofs.YtfdggebddcoeeaaGreatDoor
