/-
  A part of the proof.
-/
import Derived.Orders
import Derived.Below
import Derived.Laws.StructEq
import Derived.Laws.Cells
import Derived.Laws.Tables
import Derived.Laws.CopyRow
import Derived.Laws.MakeOwn
import Derived.Laws.OwnMore
import Derived.Laws.AppendOwn
import Derived.Laws.Slices
import Derived.OrdersHeld
import Derived.Great.FillDense
import Derived.Laws.Small
import Derived.Laws.IdiomStrings
import Derived.Laws.NewFold
set_option linter.unusedVariables false
set_option linter.unusedSimpArgs false
/-
  Symbolic whole numbers: expressions, what they stand for, and constructors that simplify; each constructor is proved to stand for what its plain form stands for.
-/
namespace Go.Proofs.YtfdggebddcoeeaaGreatDoor
namespace Sx
open Go

inductive SE where
  | lit (n : Int)
  | var (i : Nat)
  | add (a b : SE)
  | sub (a b : SE)
  | mul (a b : SE)
  | tdiv (a b : SE)
  | tmod (a b : SE)
  | shr (a n : SE)
  | shl (a n : SE)
  | md (a : SE) (b : Nat)
  | wrap (k : IntKind) (a : SE)
  | bit (o : BinOp) (k : IntKind) (a b : SE)
  | cat (x : SE) (b : Nat) (r : SE)
  | lt (a b : SE)
  | eq (a b : SE)
  | ite (c a b : SE)
  | f1 (c : Nat) (a : SE)
  | f2 (c : Nat) (a b : SE)

/-- what the named functions stand for, and the variables -/
structure Env where
  f1 : Nat → Int → Int
  f2 : Nat → Int → Int → Int
  va : Nat → Int

def bitsI (o : BinOp) (k : IntKind) (x y : Int) : Int :=
  k.wrap (match o with
  | .and => (BitVec.ofInt k.bits x &&& BitVec.ofInt k.bits y).toNat
  | .or => (BitVec.ofInt k.bits x ||| BitVec.ofInt k.bits y).toNat
  | .xor => (BitVec.ofInt k.bits x ^^^ BitVec.ofInt k.bits y).toNat
  | _ => (BitVec.ofInt k.bits x &&& ~~~BitVec.ofInt k.bits y).toNat)

def SE.den (E : Env) : SE → Int
  | .lit n => n
  | .var i => E.va i
  | .add a b => a.den E + b.den E
  | .sub a b => a.den E - b.den E
  | .mul a b => a.den E * b.den E
  | .tdiv a b => (a.den E).tdiv (b.den E)
  | .tmod a b => (a.den E).tmod (b.den E)
  | .shr a n => a.den E / 2 ^ (n.den E).toNat
  | .shl a n => a.den E * 2 ^ (n.den E).toNat
  | .md a b => a.den E % 2 ^ b
  | .wrap k a => k.wrap (a.den E)
  | .bit o k a b => bitsI o k (a.den E) (b.den E)
  | .cat x b r => x.den E % 2 ^ b + 2 ^ b * r.den E
  | .lt a b => if a.den E < b.den E then 1 else 0
  | .eq a b => if a.den E = b.den E then 1 else 0
  | .ite c a b => if c.den E = 0 then b.den E else a.den E
  | .f1 c a => E.f1 c (a.den E) % 2 ^ (c % 100)
  | .f2 c a b => E.f2 c (a.den E) (b.den E) % 2 ^ (c % 100)

/-! whole numbers in the kernel's own words -/
def intEq : Int → Int → Bool
  | .ofNat a, .ofNat b => Nat.beq a b
  | .negSucc a, .negSucc b => Nat.beq a b
  | _, _ => false
theorem intEq_iff (a b : Int) : intEq a b = true ↔ a = b := by
  cases a <;> cases b <;> simp [intEq] <;> omega
def intLt : Int → Int → Bool
  | .ofNat a, .ofNat b => Nat.blt a b
  | .negSucc _, .ofNat _ => true
  | .ofNat _, .negSucc _ => false
  | .negSucc a, .negSucc b => Nat.blt b a
theorem intLt_iff (a b : Int) : intLt a b = true ↔ a < b := by
  cases a <;> cases b <;> simp [intLt, Nat.blt_eq] <;> omega
def int0 : Int → Bool
  | .ofNat n => Nat.beq n 0
  | .negSucc _ => false
theorem int0_iff (a : Int) : int0 a = true ↔ a = 0 := by
  cases a <;> simp [int0]
def addI : Int → Int → Int
  | .ofNat a, .ofNat b => .ofNat (Nat.add a b)
  | a, b => a + b
theorem addI_eq (a b : Int) : addI a b = a + b := by
  cases a <;> cases b <;> rfl

def SE.beq : SE → SE → Bool
  | .lit a, .lit b => intEq a b
  | .var a, .var b => Nat.beq a b
  | .add a b, .add c d => cond (a.beq c) (b.beq d) false
  | .sub a b, .sub c d => cond (a.beq c) (b.beq d) false
  | .mul a b, .mul c d => cond (a.beq c) (b.beq d) false
  | .tdiv a b, .tdiv c d => cond (a.beq c) (b.beq d) false
  | .tmod a b, .tmod c d => cond (a.beq c) (b.beq d) false
  | .shr a b, .shr c d => cond (a.beq c) (b.beq d) false
  | .shl a b, .shl c d => cond (a.beq c) (b.beq d) false
  | .md a b, .md c d => cond (Nat.beq b d) (a.beq c) false
  | .wrap k a, .wrap l c => cond (decide (k = l)) (a.beq c) false
  | .bit o k a b, .bit p l c d => cond (decide (o = p)) (cond (decide (k = l)) (cond (a.beq c) (b.beq d) false) false) false
  | .cat a n b, .cat c m d => cond (Nat.beq n m) (cond (a.beq c) (b.beq d) false) false
  | .lt a b, .lt c d => cond (a.beq c) (b.beq d) false
  | .eq a b, .eq c d => cond (a.beq c) (b.beq d) false
  | .ite x a b, .ite y c d => cond (x.beq y) (cond (a.beq c) (b.beq d) false) false
  | .f1 n a, .f1 m c => cond (Nat.beq n m) (a.beq c) false
  | .f2 n a b, .f2 m c d => cond (Nat.beq n m) (cond (a.beq c) (b.beq d) false) false
  | _, _ => false
theorem SE.beq_eq : ∀ {a b : SE}, a.beq b = true → a = b := by
  intro a
  induction a <;> intro b h <;> cases b <;> simp only [SE.beq, Bool.false_eq_true] at h
  all_goals
    simp only [Bool.cond_false_right, Bool.and_eq_true, decide_eq_true_eq, Nat.beq_eq, intEq_iff] at h
    grind

/-! bounds: 'ub e = some n' says 0 ≤ e < 2^n -/
def ub : SE → Option Nat
  | .lit n => match n with
    | .ofNat n => some (Nat.succ (Nat.log2 n))
    | .negSucc _ => none
  | .md _ b => some b
  | .cat _ b r => match ub r with
    | some n => some (Nat.add b n)
    | none => none
  | .lt _ _ => some 1
  | .eq _ _ => some 1
  | .shl a n => match n with
    | .lit m => match m with
      | .ofNat m => match ub a with
        | some l => some (Nat.add l m)
        | none => none
      | .negSucc _ => none
    | _ => none
  | .shr a n => match n with
    | .lit m => match m with
      | .ofNat m => match ub a with
        | some l => some (Nat.sub l m)
        | none => none
      | .negSucc _ => none
    | _ => none
  | .ite _ a b => match ub a with
    | some m => match ub b with
      | some n => some (cond (Nat.ble m n) n m)
      | none => none
    | none => none
  | .f1 c _ => some (Nat.mod c 100)
  | .f2 c _ _ => some (Nat.mod c 100)
  | .wrap k _ => match k with
    | .u64 => some 64
    | .u32 => some 32
    | .u16 => some 16
    | .u8 => some 8
    | _ => none
  | .bit _ k _ _ => match k with
    | .u64 => some 64
    | .u32 => some 32
    | .u16 => some 16
    | .u8 => some 8
    | _ => none
  | _ => none

variable (E : Env)
theorem two_pow_pos (n : Nat) : (0 : Int) < 2 ^ n := Int.pow_pos (by decide)
theorem two_pow_mono {m n : Nat} (h : m ≤ n) : (2 : Int) ^ m ≤ 2 ^ n := by
  have : (2 : Nat) ^ m ≤ 2 ^ n := Nat.pow_le_pow_right (by decide) h
  exact_mod_cast this
theorem emod_range (x : Int) (n : Nat) : 0 ≤ x % 2 ^ n ∧ x % 2 ^ n < 2 ^ n :=
  ⟨Int.emod_nonneg _ (by have := two_pow_pos n; omega), Int.emod_lt_of_pos _ (two_pow_pos n)⟩
theorem wrap_unsigned {k : IntKind} (h : k.signed = false) (x : Int) : k.wrap x = x % 2 ^ k.bits := by
  simp [IntKind.wrap, h]
theorem ub_ok : ∀ {e : SE} {n : Nat}, ub e = some n → 0 ≤ e.den E ∧ e.den E < 2 ^ n := by
  intro e
  induction e <;> intro n h <;> simp only [ub] at h <;> try (cases h; done)
  case lit x =>
    cases x with
    | ofNat m =>
      simp only [Option.some.injEq] at h
      subst h
      have := @Nat.lt_log2_self m
      simp only [SE.den]
      refine ⟨by simp, ?_⟩
      have h2 : (m : Int) < ((2 ^ (m.log2 + 1) : Nat) : Int) := by exact_mod_cast this
      simpa using h2
    | negSucc m => cases h
  case md a b ih =>
    cases h; exact emod_range _ _
  case cat x b r ihx ihr =>
    cases hr : ub r with
    | none => rw [hr] at h; cases h
    | some m =>
      rw [hr] at h
      cases h
      obtain ⟨h1, h2⟩ := ihr hr
      obtain ⟨h3, h4⟩ := emod_range (x.den E) b
      have hb := two_pow_pos b
      simp only [SE.den]
      refine ⟨by have := Int.mul_nonneg (Int.le_of_lt hb) h1; omega, ?_⟩
      have e1 : (2 : Int) ^ (b.add m) = 2 ^ b * 2 ^ m := Int.pow_add ..
      have e2 : (2 : Int) ^ b * (r.den E + 1) ≤ 2 ^ b * 2 ^ m := Int.mul_le_mul_of_nonneg_left (by omega) (Int.le_of_lt hb)
      rw [Int.mul_add] at e2
      omega
  case lt a b _ _ => cases h; simp only [SE.den]; split <;> simp
  case eq a b _ _ => cases h; simp only [SE.den]; split <;> simp
  case shl a n' iha ihn =>
    split at h
    · split at h
      · cases ha : ub a with
        | none => simp [ha] at h
        | some l =>
          simp only [ha, Option.some.injEq] at h
          subst h
          obtain ⟨h1, h2⟩ := iha ha
          rename_i m
          simp only [SE.den, Int.toNat_natCast, Int.ofNat_eq_natCast]
          have hb := two_pow_pos m
          refine ⟨Int.mul_nonneg h1 (Int.le_of_lt hb), ?_⟩
          have e1 : (2 : Int) ^ (l.add m) = 2 ^ l * 2 ^ m := Int.pow_add ..
          rw [e1]
          exact Int.mul_lt_mul_of_pos_right h2 hb
      · cases h
    · cases h
  case shr a n' iha ihn =>
    split at h
    · split at h
      · cases ha : ub a with
        | none => simp [ha] at h
        | some l =>
          simp only [ha, Option.some.injEq] at h
          subst h
          obtain ⟨h1, h2⟩ := iha ha
          rename_i m
          simp only [SE.den, Int.toNat_natCast, Int.ofNat_eq_natCast]
          have hb := two_pow_pos m
          refine ⟨Int.ediv_nonneg h1 (Int.le_of_lt hb), ?_⟩
          apply Int.ediv_lt_of_lt_mul hb
          refine Int.lt_of_lt_of_le h2 ?_
          have e1 : (2 : Int) ^ (l.sub m) * 2 ^ m = 2 ^ (l - m + m) := (Int.pow_add ..).symm
          rw [e1]
          exact two_pow_mono (by omega)
      · cases h
    · cases h
  case ite c a b ihc iha ihb =>
    cases ha : ub a with
    | none => simp [ha] at h
    | some l =>
      cases hb : ub b with
      | none => simp [ha, hb] at h
      | some m =>
        simp only [ha, hb, Option.some.injEq] at h
        obtain ⟨a1, a2⟩ := iha ha
        obtain ⟨b1, b2⟩ := ihb hb
        simp only [SE.den]
        have hl : l ≤ n ∧ m ≤ n := by
          cases hc : Nat.ble l m <;> rw [hc] at h <;> simp only [cond] at h
          · have : ¬ l ≤ m := by intro hh; rw [Nat.ble_eq_true_of_le hh] at hc; cases hc
            omega
          · have := Nat.le_of_ble_eq_true hc; omega
        split
        · exact ⟨b1, Int.lt_of_lt_of_le b2 (two_pow_mono hl.2)⟩
        · exact ⟨a1, Int.lt_of_lt_of_le a2 (two_pow_mono hl.1)⟩
  case f1 c a ih => cases h; exact emod_range _ _
  case f2 c a b _ _ => cases h; exact emod_range _ _
  case wrap k a ih =>
    split at h <;> cases h <;> simp only [SE.den] <;> rw [wrap_unsigned rfl] <;> exact emod_range _ _
  case bit o k a b _ _ =>
    split at h <;> cases h <;> simp only [SE.den, bitsI] <;> rw [wrap_unsigned rfl] <;> exact emod_range _ _

/-! constructors that simplify -/
def leO (a : Option Nat) (n : Nat) : Bool := match a with
  | some m => Nat.ble m n
  | none => false
theorem leO_ok {e : SE} {n : Nat} (h : leO (ub e) n = true) : 0 ≤ e.den E ∧ e.den E < 2 ^ n := by
  unfold leO at h
  split at h
  · rename_i m hm
    obtain ⟨h1, h2⟩ := ub_ok E hm
    exact ⟨h1, Int.lt_of_lt_of_le h2 (two_pow_mono (Nat.le_of_ble_eq_true h))⟩
  · cases h
theorem emod_small {x : Int} {n : Nat} (h : 0 ≤ x ∧ x < 2 ^ n) : x % 2 ^ n = x := Int.emod_eq_of_lt h.1 h.2
theorem emod_emod_pow (x : Int) {m n : Nat} (h : m ≤ n) : x % 2 ^ n % 2 ^ m = x % 2 ^ m := by
  apply Int.emod_emod_of_dvd
  exact ⟨2 ^ (n - m), by rw [← Int.pow_add]; congr 1; omega⟩
theorem emod_emod_pow' (x : Int) {m n : Nat} (h : n ≤ m) : x % 2 ^ n % 2 ^ m = x % 2 ^ n := by
  have := emod_range x n
  exact emod_small ⟨this.1, Int.lt_of_lt_of_le this.2 (two_pow_mono h)⟩
theorem cat_emod_low (x r : Int) {b c : Nat} (h : b ≤ c) : (x % 2 ^ c + 2 ^ c * r) % 2 ^ b = x % 2 ^ b := by
  have e : (2 : Int) ^ c = 2 ^ b * 2 ^ (c - b) := by rw [← Int.pow_add]; congr 1; omega
  rw [show (2 : Int) ^ c * r = 2 ^ b * (2 ^ (c - b) * r) by rw [e, Int.mul_assoc], Int.add_mul_emod_self_left, emod_emod_pow x h]
theorem cat_emod_high (x r : Int) {b c : Nat} (h : c ≤ b) : (x % 2 ^ c + 2 ^ c * r) % 2 ^ b = x % 2 ^ c + 2 ^ c * (r % 2 ^ (b - c)) := by
  have e : (2 : Int) ^ b = 2 ^ c * 2 ^ (b - c) := by rw [← Int.pow_add]; congr 1; omega
  have h1 := emod_range x c
  have h2 := emod_range r (b - c)
  have hc := two_pow_pos c
  have hr : r = r % 2 ^ (b - c) + 2 ^ (b - c) * (r / 2 ^ (b - c)) := (Int.emod_add_mul_ediv r _).symm
  have h3 : x % 2 ^ c + 2 ^ c * r = (x % 2 ^ c + 2 ^ c * (r % 2 ^ (b - c))) + 2 ^ b * (r / 2 ^ (b - c)) := by
    conv => lhs; rw [hr]
    rw [Int.mul_add, e, Int.mul_assoc, Int.add_assoc]
  rw [h3, Int.add_mul_emod_self_left]
  apply Int.emod_eq_of_lt
  · have := Int.mul_nonneg (Int.le_of_lt hc) h2.1; omega
  · have : (2 : Int) ^ c * (r % 2 ^ (b - c) + 1) ≤ 2 ^ c * 2 ^ (b - c) := Int.mul_le_mul_of_nonneg_left (by omega) (Int.le_of_lt hc)
    rw [Int.mul_add] at this
    omega
theorem cat_ediv (x r : Int) {b n : Nat} (h : b ≤ n) : (x % 2 ^ b + 2 ^ b * r) / 2 ^ n = r / 2 ^ (n - b) := by
  have e : (2 : Int) ^ n = 2 ^ b * 2 ^ (n - b) := by rw [← Int.pow_add]; congr 1; omega
  have h1 := emod_range x b
  have hb := two_pow_pos b
  rw [e, ← Int.ediv_ediv_of_nonneg (Int.le_of_lt hb), Int.add_mul_ediv_left _ _ (by omega), Int.ediv_eq_zero_of_lt h1.1 h1.2, Int.zero_add]

def modI (n : Int) (b : Nat) : Int := match n with
  | .ofNat m => .ofNat (Nat.mod m (Nat.pow 2 b))
  | .negSucc m => Int.negSucc m % 2 ^ b
theorem modI_eq (n : Int) (b : Nat) : modI n b = n % 2 ^ b := by
  cases n with
  | ofNat m =>
    simp only [modI]
    show ((m % 2 ^ b : Nat) : Int) = (m : Int) % 2 ^ b
    push_cast
    rfl
  | negSucc m => rfl
def mkMd : SE → Nat → SE
  | .lit n, b => .lit (modI n b)
  | .md a c, b => .md a (cond (Nat.ble b c) b c)
  | .cat x c r, b => cond (Nat.ble b c) (mkMd x b) (.cat x c (mkMd r (Nat.sub b c)))
  | .ite c x y, b => .ite c (mkMd x b) (mkMd y b)
  | .var i, b => .md (.var i) b
  | e, b => cond (leO (ub e) b) e (.md e b)
theorem md_dflt (e : SE) (b : Nat) : (cond (leO (ub e) b) e (.md e b)).den E = e.den E % 2 ^ b := by
  cases h : leO (ub e) b
  · rfl
  · exact (emod_small (leO_ok E h)).symm
theorem mkMd_den (e : SE) : ∀ b, (mkMd e b).den E = e.den E % 2 ^ b := by
  induction e <;> intro n <;> try exact md_dflt E _ n
  case lit x => simp only [mkMd, SE.den, modI_eq]
  case var i => rfl
  case md a c ih =>
    simp only [mkMd, SE.den]
    cases h : Nat.ble n c
    · have : c ≤ n := by
        rcases Nat.le_total n c with h' | h'
        · rw [Nat.ble_eq_true_of_le h'] at h; cases h
        · exact h'
      exact (emod_emod_pow' _ this).symm
    · exact (emod_emod_pow _ (Nat.le_of_ble_eq_true h)).symm
  case cat x c r ihx ihr =>
    simp only [mkMd, SE.den]
    cases h : Nat.ble n c
    · have : c ≤ n := by
        rcases Nat.le_total n c with h' | h'
        · rw [Nat.ble_eq_true_of_le h'] at h; cases h
        · exact h'
      simp only [cond, SE.den, ihr]
      exact (cat_emod_high _ _ this).symm
    · simp only [cond, ihx]
      exact (cat_emod_low _ _ (Nat.le_of_ble_eq_true h)).symm
  case ite c x y ihc ihx ihy =>
    simp only [mkMd, SE.den, ihx, ihy]
    split <;> rfl

/-- so many bits a number of this kind may have to stay as it is -/
def wb : IntKind → Nat
  | .i8 => 7
  | .u8 => 8
  | .i16 => 15
  | .u16 => 16
  | .i32 => 31
  | .u32 => 32
  | .i64 => 63
  | .u64 => 64
theorem wrap_small {k : IntKind} {x : Int} (h : 0 ≤ x ∧ x < 2 ^ wb k) : k.wrap x = x := by
  cases k <;> simp [wb, IntKind.wrap, IntKind.bits, IntKind.signed] at * <;> omega
def wrapI (k : IntKind) (n : Int) : Int := match n with
  | .ofNat m => cond (Nat.blt m (Nat.pow 2 (wb k))) (.ofNat m) (k.wrap (.ofNat m))
  | .negSucc m => k.wrap (.negSucc m)
theorem wrapI_eq (k : IntKind) (n : Int) : wrapI k n = k.wrap n := by
  cases n with
  | ofNat m =>
    simp only [wrapI]
    cases h : Nat.blt m (Nat.pow 2 (wb k))
    · rfl
    · have h1 : m < 2 ^ wb k := by simpa [Nat.blt_eq] using h
      refine (wrap_small ⟨by simp, ?_⟩).symm
      have : (m : Int) < ((2 ^ wb k : Nat) : Int) := by exact_mod_cast h1
      simpa using this
  | negSucc m => rfl
def mkWrap (k : IntKind) (e : SE) : SE := match e with
  | .lit n => .lit (wrapI k n)
  | .var i => .wrap k (.var i)
  | e => cond (leO (ub e) (wb k)) e (.wrap k e)
theorem mkWrap_den (k : IntKind) (e : SE) : (mkWrap k e).den E = k.wrap (e.den E) := by
  have d : (cond (leO (ub e) (wb k)) e (.wrap k e)).den E = k.wrap (e.den E) := by
    cases h : leO (ub e) (wb k)
    · rfl
    · exact (wrap_small (leO_ok E h)).symm
  cases e <;> first | exact d | simp only [mkWrap, SE.den, wrapI_eq]

def mkShl (e : SE) (n : Nat) : SE := match e with
  | .lit x => .lit (x * 2 ^ n)
  | .shl a m => match m with
    | .lit l => match l with
      | .ofNat m => .shl a (.lit (.ofNat (Nat.add m n)))
      | .negSucc _ => .shl e (.lit (.ofNat n))
    | _ => .shl e (.lit (.ofNat n))
  | _ => match n with
    | 0 => e
    | n + 1 => .shl e (.lit (.ofNat (n + 1)))
theorem mkShl_den (e : SE) (n : Nat) : (mkShl e n).den E = e.den E * 2 ^ n := by
  unfold mkShl
  split
  · rfl
  · split
    · split
      · rename_i m
        simp only [SE.den, Int.ofNat_eq_natCast, Int.toNat_natCast]
        rw [Int.mul_assoc, ← Int.pow_add]
        rfl
      · rfl
    · rfl
  · split
    · simp
    · rfl
def mkShr : SE → Nat → SE
  | .lit x, n => .lit (x / 2 ^ n)
  | .cat x b r, n => match n with
    | 0 => .cat x b r
    | n + 1 => cond (Nat.ble b (n + 1)) (mkShr r (Nat.sub (n + 1) b)) (.shr (.cat x b r) (.lit (.ofNat (n + 1))))
  | .shr a m, n => match m with
    | .lit l => match l with
      | .ofNat m => .shr a (.lit (.ofNat (Nat.add m n)))
      | .negSucc l => .shr (.shr a (.lit (.negSucc l))) (.lit (.ofNat n))
    | m => .shr (.shr a m) (.lit (.ofNat n))
  | e, n => match n with
    | 0 => e
    | n + 1 => .shr e (.lit (.ofNat (n + 1)))
theorem shr_dflt (e : SE) (n : Nat) : (match n with | 0 => e | n + 1 => SE.shr e (.lit (.ofNat (n + 1)))).den E = e.den E / 2 ^ n := by
  cases n with
  | zero => simp
  | succ n => rfl
theorem mkShr_den (e : SE) : ∀ n, (mkShr e n).den E = e.den E / 2 ^ n := by
  induction e <;> intro n <;> try exact shr_dflt E _ n
  case lit x => rfl
  case cat x b r ihx ihr =>
    simp only [mkShr]
    cases n with
    | zero => simp
    | succ n =>
      simp only
      cases h : Nat.ble b (n + 1)
      · rfl
      · simp only [cond, ihr]
        exact (cat_ediv _ _ (Nat.le_of_ble_eq_true h)).symm
  case shr a m iha ihm =>
    simp only [mkShr]
    split
    · split
      · simp only [SE.den, Int.ofNat_eq_natCast, Int.toNat_natCast]
        rw [Int.ediv_ediv_of_nonneg (Int.le_of_lt (two_pow_pos _)), ← Int.pow_add]
        rfl
      · rfl
    · rfl

/-- e + 2^n x where e < 2^n -/
def catEnd : SE → Nat → SE → SE
  | .cat a b r, n, x => .cat a b (catEnd r (Nat.sub n b) x)
  | e, n, x => match n with
    | 0 => x
    | n + 1 => .cat e (n + 1) x
theorem catEnd_dflt (e : SE) (n : Nat) (x : SE) (h : leO (ub e) n = true) : (match n with | 0 => x | n + 1 => SE.cat e (n + 1) x).den E = e.den E + 2 ^ n * x.den E := by
  have hb := leO_ok E h
  cases n with
  | zero => simp at hb ⊢; omega
  | succ n => simp only [SE.den]; rw [emod_small hb]
theorem catEnd_den (e : SE) (x : SE) : ∀ n, leO (ub e) n = true → (catEnd e n x).den E = e.den E + 2 ^ n * x.den E := by
  induction e <;> intro n h <;> try exact catEnd_dflt E _ n x h
  case cat a b r iha ihr =>
    simp only [catEnd, SE.den]
    simp only [ub] at h
    cases hr : ub r with
    | none => rw [hr] at h; cases h
    | some m =>
      rw [hr] at h
      have h1 : b + m ≤ n := Nat.le_of_ble_eq_true h
      have e0 : Nat.sub n b = n - b := rfl
      rw [e0, ihr (n - b) (by rw [hr]; exact Nat.ble_eq_true_of_le (by omega))]
      have e1 : (2 : Int) ^ n = 2 ^ b * 2 ^ (n - b) := by rw [← Int.pow_add]; congr 1; omega
      rw [Int.mul_add, e1, Int.mul_assoc, Int.add_assoc]
def shlAdd (v n e d : SE) : SE := match n with
  | .lit l => match l with
    | .ofNat m => cond (leO (ub e) m) (catEnd e m v) d
    | .negSucc _ => d
  | _ => d
theorem shlAdd_den (v n e d : SE) (h : d.den E = e.den E + (SE.shl v n).den E) : (shlAdd v n e d).den E = e.den E + (SE.shl v n).den E := by
  unfold shlAdd
  split
  · split
    · rename_i m
      cases hh : leO (ub e) m
      · exact h
      · simp only [cond, catEnd_den E e v m hh, SE.den, Int.ofNat_eq_natCast, Int.toNat_natCast]
        rw [Int.mul_comm]
    · exact h
  · exact h
def mkAdd (a b : SE) : SE := match a with
  | .lit x => match b with
    | .lit y => .lit (addI x y)
    | b => cond (int0 x) b (.add (.lit x) b)
  | .shl v n => match b with
    | .lit y => cond (int0 y) (.shl v n) (.add (.shl v n) (.lit y))
    | b => shlAdd v n b (.add (.shl v n) b)
  | a => match b with
    | .lit y => cond (int0 y) a (.add a (.lit y))
    | .shl v n => shlAdd v n a (.add a (.shl v n))
    | b => .add a b
theorem cond0 {x : Int} {a b : SE} : (cond (int0 x) a b).den E = if x = 0 then a.den E else b.den E := by
  by_cases h : x = 0
  · rw [if_pos h, (int0_iff x).2 h]; rfl
  · rw [if_neg h]
    have : int0 x = false := by
      cases h' : int0 x
      · rfl
      · exact absurd ((int0_iff x).1 h') h
    rw [this]; rfl
theorem mkAdd_den (a b : SE) : (mkAdd a b).den E = a.den E + b.den E := by
  unfold mkAdd
  split
  · split
    · simp only [SE.den, addI_eq]
    · rw [cond0]; split <;> simp_all [SE.den]
  · split
    · rw [cond0]; split <;> simp_all [SE.den]
    · rw [shlAdd_den, Int.add_comm]; simp only [SE.den]; rw [Int.add_comm]
  · split
    · rw [cond0]; split <;> simp_all [SE.den]
    · rw [shlAdd_den]; rfl
    · rfl
def mkSub (a b : SE) : SE := match a with
  | .lit x => match b with
    | .lit y => .lit (x - y)
    | b => .sub (.lit x) b
  | a => match b with
    | .lit y => cond (int0 y) a (.sub a (.lit y))
    | b => .sub a b
theorem mkSub_den (a b : SE) : (mkSub a b).den E = a.den E - b.den E := by
  unfold mkSub
  split
  · split <;> rfl
  · split
    · rw [cond0]; split <;> simp_all [SE.den]
    · rfl
def lg (n : Nat) : Option Nat := cond (Nat.beq (Nat.pow 2 (Nat.log2 n)) n) (some (Nat.log2 n)) none
theorem lg_ok {n k : Nat} (h : lg n = some k) : n = 2 ^ k := by
  unfold lg at h
  cases hb : Nat.beq (Nat.pow 2 (Nat.log2 n)) n <;> rw [hb] at h <;> cases h
  exact (Nat.eq_of_beq_eq_true hb).symm
def mulL (y : Int) (a d : SE) : SE := match y with
  | .ofNat n => match lg n with
    | some k => mkShl a k
    | none => d
  | .negSucc _ => d
theorem mulL_den (y : Int) (a d : SE) (h : d.den E = a.den E * y) : (mulL y a d).den E = a.den E * y := by
  unfold mulL
  split
  · split
    · rename_i n k hk
      rw [mkShl_den, lg_ok hk]
      push_cast
      rfl
    · exact h
  · exact h
def mkMul (a b : SE) : SE := match a with
  | .lit x => match b with
    | .lit y => .lit (x * y)
    | b => mulL x b (.mul (.lit x) b)
  | a => match b with
    | .lit y => mulL y a (.mul a (.lit y))
    | b => .mul a b
theorem mkMul_den (a b : SE) : (mkMul a b).den E = a.den E * b.den E := by
  unfold mkMul
  split
  · split
    · rfl
    · rw [mulL_den, Int.mul_comm]; rfl
      simp only [SE.den]; rw [Int.mul_comm]
  · split
    · rw [mulL_den]; rfl; rfl
    · rfl

def mkNot (e : SE) : SE := match e with
  | .lit n => .lit (cond (int0 n) 1 0)
  | e => .eq e (.lit 0)
theorem cond_int0 (x a b : Int) : (cond (int0 x) a b) = if x = 0 then a else b := by
  by_cases h : x = 0
  · rw [if_pos h, (int0_iff x).2 h]; rfl
  · rw [if_neg h]
    have : int0 x = false := by
      cases h' : int0 x
      · rfl
      · exact absurd ((int0_iff x).1 h') h
    rw [this]; rfl
theorem mkNot_den (e : SE) : (mkNot e).den E = if e.den E = 0 then 1 else 0 := by
  cases e <;> try rfl
  exact cond_int0 _ _ _
def mkLt (a b : SE) : SE := match a with
  | .lit x => match b with
    | .lit y => .lit (cond (intLt x y) 1 0)
    | b => .lt (.lit x) b
  | a => .lt a b
theorem cond_intLt (x y a b : Int) : (cond (intLt x y) a b) = if x < y then a else b := by
  by_cases h : x < y
  · rw [if_pos h, (intLt_iff x y).2 h]; rfl
  · rw [if_neg h]
    have : intLt x y = false := by
      cases h' : intLt x y
      · rfl
      · exact absurd ((intLt_iff x y).1 h') h
    rw [this]; rfl
theorem cond_intEq (x y a b : Int) : (cond (intEq x y) a b) = if x = y then a else b := by
  by_cases h : x = y
  · rw [if_pos h, (intEq_iff x y).2 h]; rfl
  · rw [if_neg h]
    have : intEq x y = false := by
      cases h' : intEq x y
      · rfl
      · exact absurd ((intEq_iff x y).1 h') h
    rw [this]; rfl
theorem mkLt_den (a b : SE) : (mkLt a b).den E = if a.den E < b.den E then 1 else 0 := by
  cases a <;> try rfl
  cases b <;> try rfl
  exact cond_intLt _ _ _ _
def mkEq (a b : SE) : SE := match a with
  | .lit x => match b with
    | .lit y => .lit (cond (intEq x y) 1 0)
    | b => .eq (.lit x) b
  | a => cond (SE.beq a b) (.lit 1) (.eq a b)
theorem eq_dflt (a b : SE) : (cond (SE.beq a b) (SE.lit 1) (.eq a b)).den E = if a.den E = b.den E then 1 else 0 := by
  cases h : SE.beq a b
  · rfl
  · rw [SE.beq_eq h, if_pos rfl]; rfl
theorem mkEq_den (a b : SE) : (mkEq a b).den E = if a.den E = b.den E then 1 else 0 := by
  cases a <;> try exact eq_dflt E _ _
  cases b <;> try rfl
  exact cond_intEq _ _ _ _
/-- is it 0 or 1 whatever the variables are? -/
def isB : SE → Bool
  | .lt _ _ => true
  | .eq _ _ => true
  | .ite _ a b => cond (isB a) (isB b) false
  | .lit n => match n with
    | .ofNat n => Nat.ble n 1
    | .negSucc _ => false
  | _ => false
theorem isB_ok : ∀ {e : SE}, isB e = true → e.den E = 0 ∨ e.den E = 1 := by
  intro e
  induction e <;> intro h <;> simp only [isB, Bool.false_eq_true] at h
  case lt a b _ _ => simp only [SE.den]; split <;> simp
  case eq a b _ _ => simp only [SE.den]; split <;> simp
  case lit n =>
    split at h
    · have := Nat.le_of_ble_eq_true h
      simp only [SE.den, Int.ofNat_eq_natCast]
      omega
    · cases h
  case ite c a b _ iha ihb =>
    cases ha : isB a <;> rw [ha] at h
    · cases h
    · simp only [SE.den]
      split
      · exact ihb h
      · exact iha ha
def iteT (c a b : SE) (x y : Int) : SE := cond (intEq x 1) (cond (int0 y) (cond (isB c) c (.ite c a b)) (.ite c a b)) (cond (int0 x) (cond (intEq y 1) (mkNot c) (.ite c a b)) (.ite c a b))
def mkIte (c a b : SE) : SE := match c with
  | .lit n => cond (int0 n) b a
  | c => cond (SE.beq a b) a (match a with
    | .lit x => match b with
      | .lit y => iteT c (.lit x) (.lit y) x y
      | b => .ite c (.lit x) b
    | a => .ite c a b)
theorem intEq_false {a b : Int} (h : intEq a b = false) : a ≠ b := fun e => by rw [(intEq_iff a b).2 e] at h; cases h
theorem iteT_den (c : SE) (x y : Int) : (iteT c (.lit x) (.lit y) x y).den E = if c.den E = 0 then y else x := by
  unfold iteT
  cases h1 : intEq x 1
  · simp only [cond]
    by_cases h2 : x = 0
    · rw [(int0_iff x).2 h2]
      simp only
      cases h3 : intEq y 1
      · rfl
      · simp only [mkNot_den]
        rw [h2, (intEq_iff y 1).1 h3]
    · have : int0 x = false := by
        cases h' : int0 x
        · rfl
        · exact absurd ((int0_iff x).1 h') h2
      rw [this]; rfl
  · have e1 := (intEq_iff x 1).1 h1
    simp only [cond]
    by_cases h2 : y = 0
    · rw [(int0_iff y).2 h2]
      simp only
      cases h3 : isB c
      · rfl
      · rcases isB_ok E h3 with h4 | h4 <;> simp [h4, e1, h2]
    · have : int0 y = false := by
        cases h' : int0 y
        · rfl
        · exact absurd ((int0_iff y).1 h') h2
      rw [this]; rfl
theorem ite_dflt (c a b : SE) : (cond (SE.beq a b) a (match a with
    | .lit x => match b with
      | .lit y => iteT c (.lit x) (.lit y) x y
      | b => .ite c (.lit x) b
    | a => .ite c a b)).den E = if c.den E = 0 then b.den E else a.den E := by
  cases hb : SE.beq a b
  · simp only [cond]
    cases a <;> try rfl
    cases b <;> try rfl
    exact iteT_den E _ _ _
  · rw [SE.beq_eq hb]; simp
theorem mkIte_den (c a b : SE) : (mkIte c a b).den E = if c.den E = 0 then b.den E else a.den E := by
  cases c <;> try exact ite_dflt E _ a b
  exact cond0 E
/-- are both 0, or both not? -/
def mkEqB (a b : SE) : SE := match b with
  | .lit n => cond (int0 n) (mkNot a) (mkNot (mkNot a))
  | b => mkIte a (mkNot (mkNot b)) (mkNot b)
theorem mkEqB_den (a b : SE) : (mkEqB a b).den E = if (a.den E = 0 ↔ b.den E = 0) then 1 else 0 := by
  have d : (mkIte a (mkNot (mkNot b)) (mkNot b)).den E = if (a.den E = 0 ↔ b.den E = 0) then 1 else 0 := by
    simp only [mkIte_den, mkNot_den]
    by_cases h1 : a.den E = 0 <;> by_cases h2 : b.den E = 0 <;> simp [h1, h2]
  cases b <;> try exact d
  rename_i n
  show (cond (int0 n) (mkNot a) (mkNot (mkNot a))).den E = _
  rw [cond0, mkNot_den, mkNot_den, mkNot_den]
  simp only [SE.den]
  by_cases h1 : a.den E = 0 <;> by_cases h2 : n = 0 <;> simp [h1, h2]

/-! bits -/
def inR (k : IntKind) (x : Int) : Prop := k.min ≤ x ∧ x ≤ k.max
theorem inR_unsigned {k : IntKind} (h : k.signed = false) {x : Int} (hx : inR k x) : 0 ≤ x ∧ x < 2 ^ k.bits := by
  cases k <;> simp [IntKind.signed] at h <;> simp [inR, IntKind.min, IntKind.max, IntKind.signed, IntKind.bits] at * <;> omega
theorem ofInt_toNat (n : Nat) (x : Int) : ((BitVec.ofInt n x).toNat : Int) = x % 2 ^ n := by
  rw [BitVec.toNat_ofInt]
  have h := two_pow_pos n
  have : ((2 ^ n : Nat) : Int) = 2 ^ n := by push_cast; rfl
  rw [this, Int.toNat_of_nonneg (Int.emod_nonneg _ (by omega))]
theorem and_mask (k : IntKind) (x : Int) (j : Nat) (hj : j ≤ k.bits) : ((BitVec.ofInt k.bits x &&& BitVec.ofInt k.bits ((2 : Int) ^ j - 1)).toNat : Int) = x % 2 ^ j := by
  have h1 : BitVec.ofInt k.bits ((2 : Int) ^ j - 1) = BitVec.ofNat k.bits (2 ^ j - 1) := by
    have : (2 : Int) ^ j - 1 = ((2 ^ j - 1 : Nat) : Int) := by
      have := Nat.two_pow_pos j
      push_cast [Int.natCast_sub this]
      rfl
    rw [this, BitVec.ofInt_natCast]
  rw [h1, BitVec.toNat_and, BitVec.toNat_ofNat]
  have h2 : (2 ^ j - 1) % 2 ^ k.bits = 2 ^ j - 1 := by
    apply Nat.mod_eq_of_lt
    have := Nat.two_pow_pos j
    have := Nat.pow_le_pow_right (show 0 < 2 by decide) hj
    omega
  rw [h2, Nat.and_two_pow_sub_one_eq_mod]
  push_cast
  rw [ofInt_toNat, emod_emod_pow x hj]

theorem natLit_den (n : Nat) : (SE.lit (.ofNat n)).den E = (n : Int) := rfl
def andL (k : IntKind) (e : SE) (n : Int) (d : SE) : SE := match n with
  | .ofNat n => match lg (Nat.succ n) with
    | some j => cond (Nat.ble j (wb k)) (cond (Nat.beq j k.bits) e (mkMd e j)) d
    | none => d
  | .negSucc _ => d
theorem wb_le (k : IntKind) : wb k ≤ k.bits := by cases k <;> decide
theorem wb_bits {k : IntKind} (h : k.bits ≤ wb k) : k.signed = false := by cases k <;> first | rfl | (exact absurd h (by decide))
theorem andL_den (k : IntKind) (e : SE) (n : Int) (d : SE) (he : inR k (e.den E)) (hd : d.den E = bitsI .and k (e.den E) n) : (andL k e n d).den E = bitsI .and k (e.den E) n := by
  unfold andL
  split
  · rename_i m
    cases hj : lg (Nat.succ m) with
    | none => exact hd
    | some j =>
      simp only
      cases h1 : Nat.ble j (wb k)
      · exact hd
      · have hjw := Nat.le_of_ble_eq_true h1
        have hjb := Nat.le_trans hjw (wb_le k)
        have hm : ((m : Nat) : Int) = 2 ^ j - 1 := by
          have := lg_ok hj
          have e2 : ((m + 1 : Nat) : Int) = ((2 ^ j : Nat) : Int) := by exact_mod_cast this
          push_cast at e2
          omega
        have hv : bitsI .and k (e.den E) (Int.ofNat m) = e.den E % 2 ^ j := by
          simp only [bitsI, Int.ofNat_eq_natCast, hm]
          rw [and_mask k _ j hjb]
          have := emod_range (e.den E) j
          exact wrap_small ⟨this.1, Int.lt_of_lt_of_le this.2 (two_pow_mono hjw)⟩
        rw [hv]
        cases h2 : Nat.beq j k.bits
        · exact mkMd_den E e j
        · have h3 := Nat.eq_of_beq_eq_true h2
          subst h3
          exact (emod_small (inR_unsigned (wb_bits hjw) he)).symm
  · exact hd
theorem or_zero (k : IntKind) (x : Int) (h : inR k x) : bitsI .or k x 0 = x := by
  simp only [bitsI]
  have : BitVec.ofInt k.bits 0 = 0#k.bits := by simp
  rw [this, BitVec.or_zero, ofInt_toNat]
  cases k <;> simp [inR, IntKind.min, IntKind.max, IntKind.signed, IntKind.bits, IntKind.wrap] at * <;> omega
theorem or_comm' (k : IntKind) (x y : Int) : bitsI .or k x y = bitsI .or k y x := by simp only [bitsI, BitVec.or_comm]
theorem and_comm' (k : IntKind) (x y : Int) : bitsI .and k x y = bitsI .and k y x := by simp only [bitsI, BitVec.and_comm]
theorem or_shl (k : IntKind) (x v : Int) (n : Nat) (hk : k.signed = false) (h1 : 0 ≤ x) (h2 : x < 2 ^ n) (h3 : inR k x) (h4 : inR k (v * 2 ^ n)) : bitsI .or k x (v * 2 ^ n) = x + 2 ^ n * v := by
  obtain ⟨a1, a2⟩ := inR_unsigned hk h3
  obtain ⟨b1, b2⟩ := inR_unsigned hk h4
  have hn := two_pow_pos n
  have hv : 0 ≤ v := by
    rcases Int.lt_or_le v 0 with h | h
    · have := Int.mul_neg_of_neg_of_pos h hn; omega
    · exact h
  obtain ⟨X, rfl⟩ := Int.eq_ofNat_of_zero_le h1
  obtain ⟨V, rfl⟩ := Int.eq_ofNat_of_zero_le hv
  have hX : X < 2 ^ n := by exact_mod_cast h2
  have hXb : X < 2 ^ k.bits := by exact_mod_cast a2
  have hVb : V * 2 ^ n < 2 ^ k.bits := by exact_mod_cast b2
  have e1 : (V : Int) * 2 ^ n = ((V * 2 ^ n : Nat) : Int) := by push_cast; rfl
  simp only [bitsI]
  rw [wrap_unsigned hk, e1, BitVec.ofInt_natCast, BitVec.ofInt_natCast, BitVec.toNat_or, BitVec.toNat_ofNat, BitVec.toNat_ofNat, Nat.mod_eq_of_lt hXb, Nat.mod_eq_of_lt hVb]
  have e2 : X ||| V * 2 ^ n = V * 2 ^ n + X := by
    rw [Nat.or_comm, Nat.mul_comm V, Nat.two_pow_add_eq_or_of_lt hX]
  have e3 : X ||| V * 2 ^ n < 2 ^ k.bits := Nat.or_lt_two_pow hXb hVb
  have e4 : (((X ||| V * 2 ^ n : Nat) : Int)) % 2 ^ k.bits = ((X ||| V * 2 ^ n : Nat) : Int) := Int.emod_eq_of_lt (by omega) (by exact_mod_cast e3)
  rw [e4, e2]
  push_cast
  rw [Int.mul_comm, Int.add_comm]
def orS (k : IntKind) (e v n d : SE) : SE := cond k.signed d (shlAdd v n e d)
theorem orS_den (k : IntKind) (e v n d : SE) (he : inR k (e.den E)) (hv : inR k ((SE.shl v n).den E)) (hd : d.den E = bitsI .or k (e.den E) ((SE.shl v n).den E)) : (orS k e v n d).den E = bitsI .or k (e.den E) ((SE.shl v n).den E) := by
  unfold orS
  cases hk : k.signed
  · unfold shlAdd
    simp only [cond]
    split
    · split
      · rename_i m
        cases hl : leO (ub e) m
        · exact hd
        · have hb := leO_ok E hl
          simp only [SE.den, Int.ofNat_eq_natCast, Int.toNat_natCast] at hv ⊢
          rw [or_shl k _ _ m hk hb.1 hb.2 he hv, catEnd_den E e v m hl]
      · exact hd
    · exact hd
  · exact hd
def mkOr (k : IntKind) (a b : SE) : SE := match a with
  | .lit x => match b with
    | .lit y => .lit (bitsI .or k x y)
    | b => cond (int0 x) b (.bit .or k (.lit x) b)
  | .shl v n => match b with
    | .lit y => cond (int0 y) (.shl v n) (.bit .or k (.shl v n) (.lit y))
    | b => orS k b v n (.bit .or k (.shl v n) b)
  | a => match b with
    | .lit y => cond (int0 y) a (.bit .or k a (.lit y))
    | .shl v n => orS k a v n (.bit .or k a (.shl v n))
    | b => .bit .or k a b
theorem mkOr_den (k : IntKind) (a b : SE) (ha : inR k (a.den E)) (hb : inR k (b.den E)) : (mkOr k a b).den E = bitsI .or k (a.den E) (b.den E) := by
  unfold mkOr
  split
  · split
    · rfl
    · rw [cond0]
      split
      · rename_i h
        simp only [SE.den, h]
        rw [or_comm', or_zero k _ hb]
      · rfl
  · split
    · rw [cond0]
      split
      · rename_i h
        simp only [SE.den, h] at ha ⊢
        rw [or_zero k _ ha]
      · rfl
    · rw [or_comm']
      exact orS_den E k _ _ _ _ hb ha (by rw [or_comm']; rfl)
  · split
    · rw [cond0]
      split
      · rename_i h
        simp only [SE.den, h]
        rw [or_zero k _ ha]
      · rfl
    · exact orS_den E k _ _ _ _ ha hb rfl
    · rfl
def mkAnd (k : IntKind) (a b : SE) : SE := match a with
  | .lit x => match b with
    | .lit y => .lit (bitsI .and k x y)
    | b => andL k b x (.bit .and k (.lit x) b)
  | a => match b with
    | .lit y => andL k a y (.bit .and k a (.lit y))
    | b => .bit .and k a b
theorem mkAnd_den (k : IntKind) (a b : SE) (ha : inR k (a.den E)) (hb : inR k (b.den E)) : (mkAnd k a b).den E = bitsI .and k (a.den E) (b.den E) := by
  unfold mkAnd
  split
  · split
    · rfl
    · rw [and_comm']
      exact andL_den E k _ _ _ hb (by rw [and_comm']; rfl)
  · split
    · exact andL_den E k _ _ _ ha rfl
    · rfl
def mkBit (o : BinOp) (k : IntKind) (a b : SE) : SE := match a with
  | .lit x => match b with
    | .lit y => .lit (bitsI o k x y)
    | b => .bit o k (.lit x) b
  | a => .bit o k a b
theorem mkBit_den (o : BinOp) (k : IntKind) (a b : SE) : (mkBit o k a b).den E = bitsI o k (a.den E) (b.den E) := by
  cases a <;> try rfl
  cases b <;> rfl

end Sx
end Go.Proofs.YtfdggebddcoeeaaGreatDoor

/-
  Symbolic values, a symbolic heap, and the evaluator: what the model's code does to them. Definitions alone.
-/
noncomputable section
namespace Go.Proofs.YtfdggebddcoeeaaGreatDoor
namespace Sx
open Go

inductive Cap where
  | ex (n : Nat)
  | gr (d : Nat)
inductive SV where
  | bool (e : SE)
  | int (k : IntKind) (e : SE)
  | str (s : List UInt8)
  | ptr (b off : Nat)
  | gptr (g off : Nat)
  | nilp
  | sl (b off len : Nat) (c : Cap)
  | nils
  | func (f : FuncId) (caps : List SV)
  | nilf
  | agg (cs : List SV)
  | tup (vs : List SV)

/-! maps from numbers, as trees -/
inductive Tr (α : Type) where
  | lf : Tr α
  | nd (l : Tr α) (v : Option α) (r : Tr α)
variable {α : Type}
def Tr.get (t : Tr α) : Nat → Option α :=
  Tr.rec (motive := fun _ => Nat → Option α) (fun _ => none)
    (fun _ v _ l r k => Nat.rec (motive := fun _ => Option α) v (fun j _ => Bool.rec (motive := fun _ => Option α) (r (Nat.div j 2)) (l (Nat.div j 2)) (Nat.beq (Nat.mod j 2) 0)) k) t
/-- a tree of one (n: a bound) -/
def Tr.sing (n : Nat) : Nat → Option α → Tr α :=
  Nat.rec (motive := fun _ => Nat → Option α → Tr α) (fun _ _ => .lf)
    (fun _ ih k o => Nat.rec (motive := fun _ => Tr α) (.nd .lf o .lf) (fun j _ => Bool.rec (motive := fun _ => Tr α) (.nd .lf none (ih (Nat.div j 2) o)) (.nd (ih (Nat.div j 2) o) none .lf) (Nat.beq (Nat.mod j 2) 0)) k) n
def Tr.upd (t : Tr α) : Nat → Option α → Tr α :=
  Tr.rec (motive := fun _ => Nat → Option α → Tr α) (fun k o => Tr.sing 40 k o)
    (fun l v r ihl ihr k o => Nat.rec (motive := fun _ => Tr α) (.nd l o r) (fun j _ => Bool.rec (motive := fun _ => Tr α) (.nd l v (ihr (Nat.div j 2) o)) (.nd (ihl (Nat.div j 2) o) v r) (Nat.beq (Nat.mod j 2) 0)) k) t
def Tr.set (t : Tr α) (k : Nat) (v : α) : Tr α := t.upd k (some v)
def Tr.del (t : Tr α) (k : Nat) : Tr α := t.upd k none

/-- a block: its elements' type, its first cells; are these all? may some of it be frozen? -/
structure SBlk where
  ty : TypeId
  cells : List SV
  ex : Bool
  fr : Bool

/-! constants, operands -/
def ofVal : Value → Option SV
  | .bool b => some (.bool (.lit (cond b 1 0)))
  | .int k n => cond (intLt n k.min) none (cond (intLt k.max n) none (some (.int k (.lit n))))
  | .string s => some (.str s.data.toList)
  | .slice a n c => match a with
    | none => cond (Nat.beq n 0) (cond (Nat.beq c 0) (some .nils) none) none
    | some _ => none
  | .pointer a => match a with
    | none => some .nilp
    | some _ => none
  | .nilFunc => some .nilf
  | _ => none
def opv (tm : Tr SV) (x : Operand) : Option SV := match x with
  | .tmp t => tm.get t
  | .const v => ofVal v
  | .global g => some (.gptr g 0)
  | .func f => some (.func f [])
def opsv (tm : Tr SV) : List Operand → Option (List SV)
  | [] => some []
  | x :: l => match opv tm x with
    | some v => match opsv tm l with
      | some vs => some (v :: vs)
      | none => none
    | none => none
/-- a number of its own -/
def litN (v : SV) : Option Nat := match v with
  | .int _ e => match e with
    | .lit n => match n with
      | .ofNat n => some n
      | .negSucc _ => none
    | _ => none
  | _ => none
def opN (tm : Tr SV) (x : Operand) : Option Nat := match opv tm x with
  | some v => litN v
  | none => none
def many : Nat := 1048576
def cellsOf (v : SV) : List SV := match v with
  | .agg cs => cs
  | v => [v]

/-! operations on numbers and texts -/
def quoI (k : IntKind) (a b : SE) : Option SV := match b with
  | .lit y => cond (int0 y) none (match a with
    | .lit x => some (.int k (.lit (k.wrap (x.tdiv y))))
    | a => match k with
      | .u64 => match y with
        | .ofNat n => match lg n with
          | some j => some (.int .u64 (mkShr a j))
          | none => some (.int .u64 (mkWrap .u64 (.tdiv a (.lit (.ofNat n)))))
        | .negSucc _ => none
      | k => some (.int k (mkWrap k (.tdiv a (.lit y)))))
  | _ => none
def remI (k : IntKind) (a b : SE) : Option SV := match b with
  | .lit y => cond (int0 y) none (match a with
    | .lit x => some (.int k (.lit (x.tmod y)))
    | a => match k with
      | .u64 => match y with
        | .ofNat n => match lg n with
          | some j => some (.int .u64 (mkMd a j))
          | none => some (.int .u64 (.tmod a (.lit (.ofNat n))))
        | .negSucc _ => none
      | k => some (.int k (.tmod a (.lit y))))
  | _ => none
def amt (k : IntKind) (b : SE) : SE := mkIte (mkLt b (.lit (.ofNat k.bits))) b (.lit (.ofNat k.bits))
def shlI (k : IntKind) (a : SE) (l : IntKind) (b : SE) : Option SV := match b with
  | .lit y => match y with
    | .ofNat n => some (.int k (mkWrap k (mkShl a (cond (Nat.ble n k.bits) n k.bits))))
    | .negSucc _ => none
  | b => cond l.signed none (some (.int k (.wrap k (.shl a (amt k b)))))
def shrI (k : IntKind) (a : SE) (l : IntKind) (b : SE) : Option SV := match b with
  | .lit y => match y with
    | .ofNat n => some (.int k (mkShr a (cond (Nat.ble n k.bits) n k.bits)))
    | .negSucc _ => none
  | b => cond l.signed none (some (.int k (.shr a (amt k b))))
def binI (o : BinOp) (k : IntKind) (a b : SE) : Option SV := match o with
  | .add => some (.int k (mkWrap k (mkAdd a b)))
  | .sub => some (.int k (mkWrap k (mkSub a b)))
  | .mul => some (.int k (mkWrap k (mkMul a b)))
  | .quo => quoI k a b
  | .rem => remI k a b
  | .and => some (.int k (mkAnd k a b))
  | .or => some (.int k (mkOr k a b))
  | .xor => some (.int k (mkBit .xor k a b))
  | .andNot => some (.int k (mkBit .andNot k a b))
  | .eql => some (.bool (mkEq a b))
  | .neq => some (.bool (mkNot (mkEq a b)))
  | .lss => some (.bool (mkLt a b))
  | .leq => some (.bool (mkNot (mkLt b a)))
  | .gtr => some (.bool (mkLt b a))
  | .geq => some (.bool (mkNot (mkLt a b)))
  | _ => none
def eqB : List UInt8 → List UInt8 → Bool
  | [], [] => true
  | a :: x, b :: y => cond (Nat.beq a.toNat b.toNat) (eqB x y) false
  | _, _ => false
def litB (b : Bool) : SV := .bool (.lit (cond b 1 0))
def binT (o : BinOp) (a b : List UInt8) : Option SV := match o with
  | .add => cond (Nat.ble (Nat.add a.length b.length) many) (some (.str (a ++ b))) none
  | .eql => some (litB (eqB a b))
  | .neq => some (litB (not (eqB a b)))
  | _ => none
def eqCells : List SV → List SV → Option SE
  | [], [] => some (.lit 1)
  | .int _ a :: x, .int _ b :: y => match eqCells x y with
    | some e => some (mkIte (mkEq a b) e (.lit 0))
    | none => none
  | .bool a :: x, .bool b :: y => match eqCells x y with
    | some e => some (mkIte (mkEqB a b) e (.lit 0))
    | none => none
  | _, _ => none
def cellKind : SV → Nat
  | .int k _ => match k with
    | .i8 => 1 | .i16 => 2 | .i32 => 3 | .i64 => 4 | .u8 => 5 | .u16 => 6 | .u32 => 7 | .u64 => 8
  | .bool _ => 9
  | _ => 0

/-- what is known from the start: the package-level variables; what some expressions are -/
structure Gl where
  tab : Nat → Tr SV
  keys : List (SE × SE)
  /-- tests behind which a number is one of so many -/
  spl : List (SE × SE × Nat)
def keyE : List (SE × SE) → SE → SE
  | [], e => e
  | (x, y) :: l, e => cond (SE.beq x e) y (keyE l e)
variable (P : Program) (G : Gl)
/-- an operation's result, if it is known -/
def keyV (v : SV) : SV := match v with
  | .int k e => .int k (keyE G.keys e)
  | .bool e => .bool (keyE G.keys e)
  | v => v
def keyO (v : Option SV) : Option SV := match v with
  | some v => some (keyV G v)
  | none => none
def descKind (t : TypeId) : Nat := match P.underlying t with
  | some (.int k) => match k with
    | .i8 => 1 | .i16 => 2 | .i32 => 3 | .i64 => 4 | .u8 => 5 | .u16 => 6 | .u32 => 7 | .u64 => 8
  | some .bool => 9
  | _ => 0
/-- a struct's fields are numbers and bools, each a cell, one behind the other, none a blank one -/
def flatFields : Nat → List Field → List SV → List SV → Bool
  | _, [], [], [] => true
  | i, f :: fs, a :: x, b :: y => cond (Nat.beq f.offset i) (cond (decide (f.name = "_")) false (cond (Nat.beq (descKind P f.type) (cellKind a)) (cond (Nat.beq (descKind P f.type) (cellKind b)) (cond (Nat.beq (cellKind a) 0) false (flatFields (i + 1) fs x y)) false) false)) false
  | _, _, _, _ => false
def eqAgg (t : TypeId) (a b : List SV) : Option SE := match P.underlying t with
  | some (.struct fs) => cond (flatFields P 0 fs.toList a b) (cond (P.stoodInHeld t) none (cond (P.eqGuardType P.depth t) none (eqCells a b))) none
  | _ => none
def binS (o : BinOp) (t : TypeId) (x y : SV) : Option SV := match x with
  | .int k a => match y with
    | .int l b => match o with
      | .shl => shlI k a l b
      | .shr => shrI k a l b
      | o => cond (decide (k = l)) (binI o k a b) none
    | _ => none
  | .str a => match y with
    | .str b => binT o a b
    | _ => none
  | .bool a => match y with
    | .bool b => cond (Nat.beq (descKind P t) 9) (match o with
      | .eql => some (.bool (mkEqB a b))
      | .neq => some (.bool (mkNot (mkEqB a b)))
      | _ => none) none
    | _ => none
  | .agg a => match y with
    | .agg b => match eqAgg P t a b with
      | some e => match o with
        | .eql => some (.bool e)
        | .neq => some (.bool (mkNot e))
        | _ => none
      | none => none
    | _ => none
  | _ => none
def szOf (t : TypeId) : Nat := match P.info? t with
  | some i => i.size
  | none => 0
def isAggT (t : TypeId) : Bool := match P.underlying t with
  | some (.struct _) => true
  | some (.array _ _) => true
  | _ => false
/-- a type that the program has -/
def knownT (t : TypeId) : Bool := (P.underlying t).isSome
def ofVals : List Value → Option (List SV)
  | [] => some []
  | v :: l => match ofVal v with
    | some v => match ofVals l with
      | some vs => some (v :: vs)
      | none => none
    | none => none
def zeroOf (t : TypeId) : Option SV := match P.info? t with
  | some i => match i.zero with
    | some z => match z with
      | .agg cs => match ofVals cs.toList with
        | some l => some (.agg l)
        | none => none
      | z => ofVal z
    | none => none
  | none => none
def partS (t : TypeId) (cs : List SV) (off : Nat) : Option SV :=
  cond (isAggT P t) (cond (Nat.ble (Nat.add off (szOf P t)) cs.length) (some (.agg ((cs.drop off).take (szOf P t)))) none) (cond (knownT P t) cs[off]? none)
def globs (g : Nat) : Nat → Nat → Option (List SV)
  | 0, _ => some []
  | n + 1, off => match (G.tab g).get off with
    | some v => match globs g n (off + 1) with
      | some l => some (v :: l)
      | none => none
    | none => none
def loadN (hp : Tr SBlk) (a : SV) (n : Nat) : Option (List SV) := match a with
  | .ptr b off => match hp.get b with
    | some k => cond (Nat.ble (Nat.add off n) k.cells.length) (some ((k.cells.drop off).take n)) none
    | none => none
  | .gptr g off => globs G g n off
  | _ => none
def loadS (hp : Tr SBlk) (t : TypeId) (a : SV) : Option SV :=
  cond (isAggT P t) (match loadN G hp a (szOf P t) with
    | some l => some (.agg l)
    | none => none) (cond (knownT P t) (match loadN G hp a 1 with
    | some l => match l with
      | [v] => some v
      | _ => none
    | none => none) none)
def setL : List SV → Nat → List SV → List SV
  | l, 0, vs => vs ++ l.drop vs.length
  | x :: l, n + 1, vs => x :: setL l n vs
  | [], _ + 1, _ => []
def oneC (v : SV) : Bool := match v with
  | .agg _ => false
  | .tup _ => false
  | _ => true
def allOne : List SV → Bool
  | [] => true
  | v :: l => cond (oneC v) (allOne l) false
def fillS (place : Nat → Option (Nat × Nat)) (cells : List SV) : List (Nat × SV) → Option (List SV)
  | [] => some cells
  | (i, v) :: rest => match place i with
    | none => none
    | some (off, size) => cond (Nat.beq (cellsOf v).length size) (cond (Nat.ble (Nat.add off size) cells.length) (fillS place (setL cells off (cellsOf v)) rest) none) none
/-- all places one behind the other -/
def seqParts (n : Nat) : Nat → List (Nat × SV) → Option (List SV)
  | _, [] => some []
  | i, (j, v) :: l => cond (Nat.beq i j) (cond (Nat.beq (cellsOf v).length n) (match seqParts n (i + 1) l with
    | some r => some (cellsOf v ++ r)
    | none => none) none) none
def seqP (n : Nat) (vs : List (Nat × SV)) : Option (List SV) := cond (Nat.beq n 0) none (seqParts n 0 vs)
def repl (z : List SV) : Nat → List SV
  | 0 => []
  | n + 1 => z ++ repl z n
def parts (tm : Tr SV) : List (Nat × Operand) → Option (List (Nat × SV))
  | [] => some []
  | (i, x) :: l => match opv tm x with
    | some v => match parts tm l with
      | some vs => some ((i, v) :: vs)
      | none => none
    | none => none
/-- the cells of an array or slice literal -/
def rowS (n len : Nat) (z : SV) (vs : List (Nat × SV)) : Option (List SV) := match seqP n vs with
  | some c => cond (Nat.beq c.length (Nat.mul len n)) (some c) (fillS (fun i => some (Nat.mul i n, n)) (repl (cellsOf z) len) vs)
  | none => fillS (fun i => some (Nat.mul i n, n)) (repl (cellsOf z) len) vs
def bound (tm : Tr SV) (x : Option Operand) (d : Nat) : Option Nat := match x with
  | none => some d
  | some x => opN tm x
def sliceV (n : Nat) (v : SV) (lo hi : Option Nat) : Option SV := match v with
  | .str s => match lo with
    | some lo => match hi with
      | some hi => cond (Nat.ble lo hi) (cond (Nat.ble hi s.length) (some (.str ((s.drop lo).take (Nat.sub hi lo)))) none) none
      | none => none
    | none => none
  | .nils => match lo with
    | some lo => match hi with
      | some hi => cond (Nat.beq lo 0) (cond (Nat.beq hi 0) (some .nils) none) none
      | none => none
    | none => none
  | .sl b off len c => match lo with
    | some lo => match hi with
      | some hi => match c with
        | .ex c => cond (Nat.ble lo hi) (cond (Nat.ble hi c) (some (.sl b (cond (Nat.beq c lo) off (Nat.add off (Nat.mul lo n))) (Nat.sub hi lo) (.ex (Nat.sub c lo)))) none) none
        | .gr d => cond (Nat.ble lo hi) (cond (Nat.ble hi len) (cond (Nat.beq lo 0) (some (.sl b off hi (.gr d))) (cond (Nat.blt lo len) (some (.sl b (Nat.add off (Nat.mul lo n)) (Nat.sub hi lo) (.gr (Nat.add d lo)))) none)) none) none
      | none => none
    | none => none
  | _ => none
/-- is a slice of a capacity that the model draws no longer than that capacity? -/
def capOk (hp : Tr SBlk) (e : TypeId) (n : Nat) (v : SV) : Bool := match v with
  | .sl b _ len c => match c with
    | .ex _ => true
    | .gr d => match hp.get b with
      | some k => match k with
        | ⟨ty, cells, ex, _⟩ => cond ex false (cond (Nat.beq ty e) (cond (Nat.beq n 0) false (Nat.ble (Nat.mul (Nat.add d len) n) cells.length)) false)
      | none => false
  | _ => true
def lenV (v : SV) : Option Nat := match v with
  | .str s => some s.length
  | .nils => some 0
  | .sl _ _ n _ => some n
  | _ => none
/-- what a slice has -/
def slCells (hp : Tr SBlk) (n : Nat) (v : SV) : Option (Nat × List SV) := match v with
  | .nils => some (0, [])
  | .sl b off len _ => match hp.get b with
    | some k => cond (Nat.ble (Nat.add off (Nat.mul len n)) k.cells.length) (some (len, (k.cells.drop off).take (Nat.mul len n))) none
    | none => none
  | _ => none

/-! what an operation is -/
structure AR where
  blk : SBlk
  val : Nat → SV
inductive Cls where
  | sil (f : Tr SV → Tr SBlk → Option SV)
  | alc (f : Tr SV → Option AR)
  | wrt (f : Nat → Tr SV → Tr SBlk → Nat → Option (SV × Tr SBlk × Nat))
  | cal (f : Tr SV → Option (FuncId × List SV))
  | bad
def pickV (tm : Tr SV) (c a b : Operand) : Option SV := match opv tm c with
  | some v => match v with
    | .bool e => match e with
      | .lit n => cond (int0 n) (opv tm b) (opv tm a)
      | e => match opv tm a with
        | some x => match opv tm b with
          | some y => match x with
            | .bool x => match y with
              | .bool y => some (.bool (mkIte e x y))
              | _ => none
            | .int k x => match y with
              | .int l y => cond (decide (k = l)) (some (.int k (mkIte e x y))) none
              | _ => none
            | _ => none
          | none => none
        | none => none
    | _ => none
  | none => none
def unV (u : UnOp) (v : SV) : Option SV := match u with
  | .neg => match v with
    | .int k e => some (.int k (mkWrap k (mkSub (.lit 0) e)))
    | _ => none
  | .xor => match v with
    | .int k e => some (.int k (mkBit .xor k (.lit (cond k.signed (-1) k.max)) e))
    | _ => none
  | .not => match v with
    | .bool e => some (.bool (mkNot e))
    | _ => none
  | _ => none
def nilV (v : SV) : Option SV := match v with
  | .ptr b o => some (.ptr b o)
  | .gptr b o => some (.gptr b o)
  | _ => none
def offV (v : SV) (n : Nat) : Option SV := match v with
  | .ptr b o => some (.ptr b (Nat.add o n))
  | .gptr b o => some (.gptr b (Nat.add o n))
  | _ => none
def bindV (o : Option SV) (f : SV → Option SV) : Option SV := match o with
  | some v => f v
  | none => none
def fieldAt' (t : TypeId) (f : Nat) : Option Field := match P.underlying t with
  | some (.struct fs) => fs[f]?
  | _ => none
/-- a slice's element type -/
def elemOf' (t : TypeId) : Option TypeId := match P.underlying t with
  | some (.slice e) => some e
  | _ => none
def arrOf (t : TypeId) : Option (Nat × TypeId) := match P.underlying t with
  | some (.array n e) => some (n, e)
  | _ => none
def strT (t : TypeId) : Bool := match P.underlying t with
  | some .string => true
  | _ => false
def idxAddr (t : TypeId) (x : SV) (i : Nat) : Option SV := match elemOf' P t with
  | some e => match x with
    | .sl b off len _ => cond (Nat.blt i len) (cond (knownT P e) (some (.ptr b (Nat.add off (Nat.mul i (szOf P e))))) none) none
    | _ => none
  | none => match arrOf P t with
    | some (n, e) => cond (Nat.blt i n) (cond (knownT P e) (offV x (Nat.mul i (szOf P e))) none) none
    | none => none
def idxV (t : TypeId) (x : SV) (i : Nat) : Option SV := match x with
  | .str s => cond (strT P t) (match s[i]? with
    | some c => some (.int .u8 (.lit (.ofNat c.toNat)))
    | none => none) none
  | .agg cs => match arrOf P t with
    | some (n, e) => cond (Nat.blt i n) (cond (knownT P e) (partS P e cs (Nat.mul i (szOf P e))) none) none
    | none => none
  | _ => none
def convV (src dst : TypeId) (v : SV) : Option SV := match v with
  | .int _ e => match P.underlying src with
    | some (.int _) => match P.underlying dst with
      | some (.int k) => some (.int k (mkWrap k e))
      | _ => none
    | _ => none
  | .str s => cond (strT P src) (cond (strT P dst) (some (.str s)) none) none
  | _ => none
def allKnown : List Field → Bool
  | [] => true
  | f :: l => cond (P.info? f.type).isSome (allKnown l) false
def buildV (t : TypeId) (vs : List (Nat × SV)) : Option SV := match zeroOf P t with
  | some z => match P.underlying t with
    | some (.struct fs) => cond (allKnown P fs.toList) (match fillS (fun i => match fs[i]? with
        | some f => some (f.offset, szOf P f.type)
        | none => none) (cellsOf z) vs with
      | some c => some (.agg c)
      | none => none) none
    | some (.array len e) => match seqP (szOf P e) vs with
      | some c => cond (Nat.beq c.length (Nat.mul len (szOf P e))) (cond (Nat.beq (cellsOf z).length (Nat.mul len (szOf P e))) (some (.agg c)) none) none
      | none => cond (P.info? e).isSome (match fillS (fun i => some (Nat.mul i (szOf P e), szOf P e)) (cellsOf z) vs with
        | some c => some (.agg c)
        | none => none) none
    | _ => none
  | none => none
def minV (k : IntKind) (a b : SE) : SV := .int k (mkIte (mkLt b a) b a)
def maxV (k : IntKind) (a b : SE) : SV := .int k (mkIte (mkLt a b) b a)
def storeV (lo : Nat) (hp : Tr SBlk) (a v : SV) : Option (Tr SBlk) := match a with
  | .ptr b off => cond (Nat.ble lo b) (match hp.get b with
    | some k => match k with
      | ⟨ty, cells, ex, fr⟩ => cond fr none (cond (Nat.ble (Nat.add off (cellsOf v).length) cells.length) (cond (allOne (cellsOf v)) (some (hp.set b ⟨ty, setL cells off (cellsOf v), ex, false⟩)) none) none)
    | none => none) none
  | _ => none
def appV (lo : Nat) (hp : Tr SBlk) (nx : Nat) (e : TypeId) (n : Nat) (x y : SV) : Option (SV × Tr SBlk × Nat) := match slCells hp n y with
  | some (m, new) => match x with
    | .nils => match m with
      | 0 => some (.nils, hp, nx)
      | m + 1 => cond (Nat.ble (m + 1) many) (some (.sl nx 0 (m + 1) (.gr 0), hp.set nx ⟨e, new, false, false⟩, nx + 1)) none
    | .sl b off len c => cond (Nat.ble lo b) (cond (Nat.beq off 0) (cond (Nat.ble (Nat.add len m) many) (match hp.get b with
      | some k => match k with
        | ⟨ty, cells, ex, fr⟩ => cond fr none (cond (Nat.beq ty e) (match c with
          | .gr d => cond (Nat.beq d 0) (cond ex none (cond (Nat.beq cells.length (Nat.mul len n)) (some (.sl nx 0 (Nat.add len m) (.gr 0), (hp.del b).set nx ⟨e, cells ++ new, false, false⟩, nx + 1)) none)) none
          | .ex c => cond ex (cond (Nat.beq cells.length (Nat.mul c n)) (cond (Nat.ble len c) (cond (Nat.ble c many) (some (.sl nx 0 (Nat.add len m) (.gr 0), (hp.del b).set nx ⟨e, cells.take (Nat.mul len n) ++ new, false, false⟩, nx + 1)) none) none) none) none) none)
      | none => none) none) none) none
    | _ => none
  | none => none
def copyV (lo : Nat) (hp : Tr SBlk) (nx : Nat) (n : Nat) (x y : SV) : Option (SV × Tr SBlk × Nat) := match x with
  | .sl b off len _ => match slCells hp n y with
    | some (m, new) => cond (Nat.ble m many) (match storeV lo hp (.ptr b off) (.agg (new.take (Nat.mul (cond (Nat.ble m len) m len) n))) with
      | some hp => some (.int .i64 (.lit (.ofNat (cond (Nat.ble m len) m len))), hp, nx)
      | none => none) none
    | none => none
  | _ => none
def szPos (e : TypeId) : Bool := match P.info? e with
  | some i => cond (Nat.beq i.size 0) false (cond (Nat.ble i.bytes 64) (match i.zero with
    | some z => Nat.beq z.cells.size i.size
    | none => false) false)
  | none => false
def lenK (t : TypeId) (v : SV) : Bool := match v with
  | .str _ => strT P t
  | _ => (elemOf' P t).isSome
def builtinC (b : Builtin) (args : Array Operand) (ts : Array TypeId) : Cls := match b with
  | .len => .sil fun tm _ => match opsv tm args.toList with
    | some l => match l with
      | [v] => match ts[0]? with
        | some t => match arrOf P t with
          | some (n, _) => cond (Nat.ble n many) (some (.int .i64 (.lit (.ofNat n)))) none
          | none => cond (lenK P t v) (match lenV v with
            | some n => cond (Nat.ble n many) (some (.int .i64 (.lit (.ofNat n)))) none
            | none => none) none
        | none => none
      | _ => none
    | none => none
  | .min => .sil fun tm _ => match opsv tm args.toList with
    | some l => match l with
      | [.int k a, .int l b] => cond (decide (k = l)) (some (keyV G (minV k a b))) none
      | _ => none
    | none => none
  | .max => .sil fun tm _ => match opsv tm args.toList with
    | some l => match l with
      | [.int k a, .int l b] => cond (decide (k = l)) (some (keyV G (maxV k a b))) none
      | _ => none
    | none => none
  | .append => .wrt fun lo tm hp nx => match opsv tm args.toList with
    | some l => match l with
      | [x, y] => match ts.toList with
        | [t, u] => cond (Nat.beq t u) (match elemOf' P t with
          | some e => cond (szPos P e) (appV lo hp nx e (szOf P e) x y) none
          | none => none) none
        | _ => none
      | _ => none
    | none => none
  | .copy => .wrt fun lo tm hp nx => match opsv tm args.toList with
    | some l => match l with
      | [x, y] => match ts[0]? with
        | some t => match elemOf' P t with
          | some e => cond (szPos P e) (copyV lo hp nx (szOf P e) x y) none
          | none => none
        | none => none
      | _ => none
    | none => none
  | _ => .bad
def cls (o : Op) : Cls := match o with
  | .move x => .sil fun tm _ => opv tm x
  | .assign x => .sil fun tm _ => opv tm x
  | .pick c a b => .sil fun tm _ => pickV tm c a b
  | .binOp b t x y _ => .sil fun tm _ => bindV (opv tm x) fun x => bindV (opv tm y) fun y => keyO G (binS P b t x y)
  | .unOp u _ x => .sil fun tm _ => keyO G (bindV (opv tm x) (unV u))
  | .nilCheck x => .sil fun tm _ => bindV (opv tm x) nilV
  | .fieldAddr t x f => match fieldAt' P t f with
    | some f => cond (Nat.beq (szOf P f.type) 0) .bad (.sil fun tm _ => bindV (opv tm x) fun v => offV v f.offset)
    | none => .bad
  | .field t x f => match fieldAt' P t f with
    | some f => .sil fun tm _ => bindV (opv tm x) fun v => match v with
      | .agg cs => partS P f.type cs f.offset
      | _ => none
    | none => .bad
  | .indexAddr t x i => .sil fun tm _ => bindV (opv tm x) fun v => match opN tm i with
    | some i => idxAddr P t v i
    | none => none
  | .index t x i => .sil fun tm _ => bindV (opv tm x) fun v => match opN tm i with
    | some i => idxV P t v i
    | none => none
  | .extract x i => .sil fun tm _ => bindV (opv tm x) fun v => match v with
    | .tup vs => vs[i]?
    | _ => none
  | .slice t x lo hi m => match m with
    | none => match elemOf' P t with
      | some e => .sil fun tm hp => bindV (opv tm x) fun v => match v with
        | .str _ => none
        | v => match lenV v with
          | some n => cond (capOk hp e (szOf P e) v) (cond (knownT P e) (sliceV (szOf P e) v (bound tm lo 0) (bound tm hi n)) none) none
          | none => none
      | none => cond (strT P t) (.sil fun tm _ => bindV (opv tm x) fun v => match v with
        | .str s => sliceV 1 (.str s) (bound tm lo 0) (bound tm hi s.length)
        | _ => none) .bad
    | some _ => .bad
  | .build t ps => .sil fun tm _ => match parts tm ps.toList with
    | some vs => buildV P t vs
    | none => none
  | .convert src dst x => match elemOf' P dst with
    | some e => cond (strT P src) (cond (Nat.beq (descKind P e) 5) (cond (Nat.beq (szOf P e) 1) (.alc fun tm => match opv tm x with
      | some v => match v with
        | .str s => cond (Nat.ble s.length many) (some ⟨⟨e, s.map fun c => .int .u8 (.lit (.ofNat c.toNat)), false, true⟩, fun b => .sl b 0 s.length (.gr 0)⟩) none
        | _ => none
      | none => none) .bad) .bad) .bad
    | none => .sil fun tm _ => bindV (opv tm x) (convV P src dst)
  | .makeFunc f first captured => match f with
    | .func f => match first.toList with
      | [] => .sil fun tm _ => match opsv tm captured.toList with
        | some vs => some (.func f vs)
        | none => none
      | _ => .bad
    | _ => .bad
  | .load t a => .sil fun tm hp => bindV (opv tm a) (loadS P G hp t)
  | .box t x => .alc fun tm => match opv tm x with
    | some v => cond (allOne (cellsOf v)) (some ⟨⟨t, cellsOf v, true, false⟩, fun b => .ptr b 0⟩) none
    | none => none
  | .alloc t => .alc fun _ => match zeroOf P t with
    | some v => cond (allOne (cellsOf v)) (some ⟨⟨t, cellsOf v, true, false⟩, fun b => .ptr b 0⟩) none
    | none => none
  | .buildSlice t len ps => match elemOf' P t with
    | some e => cond (and (szPos P e) (Nat.ble (Nat.mul len (szOf P e)) many)) (.alc fun tm => match parts tm ps.toList with
      | some vs => match zeroOf P e with
        | some z => match rowS (szOf P e) len z vs with
          | some cs => cond (allOne cs) (some ⟨⟨e, cs, true, false⟩, fun b => .sl b 0 len (.ex len)⟩) none
          | none => none
        | none => none
      | none => none) .bad
    | none => .bad
  | .makeSlice t l c => match elemOf' P t with
    | some e => cond (szPos P e) (.alc fun tm => match opN tm l with
      | some l => match opN tm c with
        | some c => cond (Nat.ble l c) (cond (Nat.ble c many) (match zeroOf P e with
          | some z => cond (allOne (cellsOf z)) (some ⟨⟨e, repl (cellsOf z) c, true, false⟩, fun b => .sl b 0 l (.ex c)⟩) none
          | none => none) none) none
        | none => none
      | none => none) .bad
    | none => .bad
  | .store t a v => .wrt fun lo tm hp nx => match opv tm a with
    | some a => match opv tm v with
      | some v => cond (and (knownT P t) (Nat.beq (cellsOf v).length (szOf P t))) (match storeV lo hp a v with
        | some hp => some (.tup [], hp, nx)
        | none => none) none
      | none => none
    | none => none
  | .call c => match c with
    | ⟨callee, args, ts⟩ => match callee with
      | .builtin b => builtinC P G b args ts
      | .value f => .cal fun tm => match opv tm f with
        | some v => match v with
          | .func f caps => match opsv tm args.toList with
            | some vs => some (f, vs ++ caps)
            | none => none
          | _ => none
        | none => none
      | .invoke _ _ => .bad
  | _ => .bad

end Sx
end Go.Proofs.YtfdggebddcoeeaaGreatDoor
end

/-
  The evaluator, second part: regions, code, calls. Definitions alone.
-/
noncomputable section
namespace Go.Proofs.YtfdggebddcoeeaaGreatDoor
namespace Sx
open Go

inductive Ex where
  | normal
  | exit (id : Nat)
  | ret
inductive Out where
  | done (e : Ex) (tm : Tr SV) (hp : Tr SBlk) (nx : Nat)
  | split (c : SE) (t f : Out)
abbrev K := Tr SV → Tr SBlk → Nat → Option Out
def Out.bindN (k : K) : Out → Option Out
  | .done e tm hp nx => match e with
    | .normal => k tm hp nx
    | .exit i => some (.done (.exit i) tm hp nx)
    | .ret => some (.done .ret tm hp nx)
  | .split c t f => match t.bindN k with
    | some t => match f.bindN k with
      | some f => some (.split c t f)
      | none => none
    | none => none
def unExit (id : Nat) (e : Ex) : Ex := match e with
  | .exit i => cond (Nat.beq i id) .normal (.exit i)
  | .normal => .normal
  | .ret => .ret
def Out.mapE (id : Nat) : Out → Out
  | .done e tm hp nx => .done (unExit id e) tm hp nx
  | .split c t f => .split c (t.mapE id) (f.mapE id)
def bindO (o : Option Out) (k : K) : Option Out := match o with
  | some o => o.bindN k
  | none => none

/-! two states put together under a test -/
def capEq (a b : Cap) : Bool := match a with
  | .ex n => match b with
    | .ex m => Nat.beq n m
    | .gr _ => false
  | .gr n => match b with
    | .ex _ => false
    | .gr m => Nat.beq n m
def mgV (c : SE) (a b : SV) : Option SV := match a with
  | .int k x => match b with
    | .int l y => cond (decide (k = l)) (some (.int k (mkIte c x y))) none
    | _ => none
  | .bool x => match b with
    | .bool y => some (.bool (mkIte c x y))
    | _ => none
  | .str x => match b with
    | .str y => cond (eqB x y) (some (.str x)) none
    | _ => none
  | .ptr p o => match b with
    | .ptr q u => cond (Nat.beq p q) (cond (Nat.beq o u) (some (.ptr p o)) none) none
    | _ => none
  | .gptr p o => match b with
    | .gptr q u => cond (Nat.beq p q) (cond (Nat.beq o u) (some (.gptr p o)) none) none
    | _ => none
  | .nils => match b with
    | .nils => some .nils
    | _ => none
  | .sl p o n d => match b with
    | .sl q u m e => cond (Nat.beq p q) (cond (Nat.beq o u) (cond (Nat.beq n m) (cond (capEq d e) (some (.sl p o n d)) none) none) none) none
    | _ => none
  | _ => none
def mgL (c : SE) : List SV → List SV → Option (List SV)
  | [], [] => some []
  | a :: x, b :: y => match mgV c a b with
    | some v => match mgL c x y with
      | some l => some (v :: l)
      | none => none
    | none => none
  | _, _ => none
/-- one level deeper -/
def mgW (c : SE) (a b : SV) : Option SV := match a with
  | .agg x => match b with
    | .agg y => match mgL c x y with
      | some l => some (.agg l)
      | none => none
    | _ => none
  | .tup x => match b with
    | .tup y => match mgL c x y with
      | some l => some (.tup l)
      | none => none
    | _ => none
  | a => mgV c a b
def mgWL (c : SE) : List SV → List SV → Option (List SV)
  | [], [] => some []
  | a :: x, b :: y => match mgW c a b with
    | some v => match mgWL c x y with
      | some l => some (v :: l)
      | none => none
    | none => none
  | _, _ => none
/-- two levels -/
def mgX (c : SE) (a b : SV) : Option SV := match a with
  | .tup x => match b with
    | .tup y => match mgWL c x y with
      | some l => some (.tup l)
      | none => none
    | _ => none
  | a => mgW c a b
def mgOV (c : SE) (a b : Option SV) : Option SV := match a with
  | some a => match b with
    | some b => mgW c a b
    | none => none
  | none => none
def mgB (c : SE) (a b : SBlk) : Option SBlk := match a with
  | ⟨t, x, e, f⟩ => match b with
    | ⟨u, y, g, h⟩ => cond (Nat.beq t u) (cond (e == g) (match mgL c x y with
      | some l => some ⟨t, l, e, or f h⟩
      | none => none) none) none
def mgOB (c : SE) (a b : Option SBlk) : Option SBlk := match a with
  | some a => match b with
    | some b => mgB c a b
    | none => none
  | none => none
def mgT (c : SE) : Tr SV → Tr SV → Tr SV
  | .nd l v r, .nd l' v' r' => .nd (mgT c l l') (mgOV c v v') (mgT c r r')
  | _, _ => .lf
def mgH (c : SE) : Tr SBlk → Tr SBlk → Tr SBlk
  | .nd l v r, .nd l' v' r' => .nd (mgH c l l') (mgOB c v v') (mgH c r r')
  | _, _ => .lf
def maxN (a b : Nat) : Nat := cond (Nat.ble a b) b a
def mgO (c : SE) (a b : Out) : Out := match a with
  | .done e tm hp nx => match e with
    | .normal => match b with
      | .done e' tm' hp' nx' => match e' with
        | .normal => .done .normal (mgT c tm tm') (mgH c hp hp') (maxN nx nx')
        | e' => .split c (.done .normal tm hp nx) (.done e' tm' hp' nx')
      | b => .split c (.done .normal tm hp nx) b
    | e => .split c (.done e tm hp nx) b
  | a => .split c a b
def mgOO (c : SE) (a b : Option Out) : Option Out := match a with
  | some a => match b with
    | some b => some (mgO c a b)
    | none => none
  | none => none

/-! operations in a row -/
abbrev CF := FuncId → List SV → Tr SBlk → Nat → Option (SV × Tr SBlk × Nat)
variable (P : Program) (G : Gl) (cf : CF) (lo : Nat)
def putO (d : Option Tmp) (v : SV) (tm : Tr SV) : Tr SV := match d with
  | some t => tm.set t v
  | none => tm
def silK (d : Option Tmp) (ih : K) (tm : Tr SV) (hp : Tr SBlk) (nx : Nat) (v : Option SV) : Option Out := match v with
  | some v => ih (putO d v tm) hp nx
  | none => none
def alcK (d : Option Tmp) (ih : K) (tm : Tr SV) (hp : Tr SBlk) (nx : Nat) (v : Option AR) : Option Out := match v with
  | some r => match r with
    | ⟨k, f⟩ => ih (putO d (f nx) tm) (hp.set nx k) (nx + 1)
  | none => none
def effK (d : Option Tmp) (ih : K) (tm : Tr SV) (r : Option (SV × Tr SBlk × Nat)) : Option Out := match r with
  | some (v, hp, nx) => ih (putO d v tm) hp nx
  | none => none
def calK (d : Option Tmp) (ih : K) (tm : Tr SV) (hp : Tr SBlk) (nx : Nat) (r : Option (FuncId × List SV)) : Option Out := match r with
  | some (f, args) => effK d ih tm (cf f args hp nx)
  | none => none
def runC (c : Cls) (d : Option Tmp) (ih : K) (tm : Tr SV) (hp : Tr SBlk) (nx : Nat) : Option Out := match c with
  | .sil f => silK d ih tm hp nx (f tm hp)
  | .alc f => alcK d ih tm hp nx (f tm)
  | .wrt f => effK d ih tm (f lo tm hp nx)
  | .cal f => calK cf d ih tm hp nx (f tm)
  | .bad => none
def guardDst (ops : Array Oper) (j : Nat) : Option Tmp := match ops[j]? with
  | some o => o.dst
  | none => none
def runG (ops : Array Oper) (c : Cls) (d : Option Tmp) (ih : K) (j : Nat) (want : Bool) (tm : Tr SV) (hp : Tr SBlk) (nx : Nat) : Option Out := match guardDst ops j with
  | some g => match tm.get g with
    | some v => match v with
      | .bool e => match e with
        | .lit n => cond (xor (int0 n) want) (runC cf lo c d ih tm hp nx) (ih (putO d (.tup []) tm) hp nx)
        | e => cond want
            (mgOO e (runC cf lo c d ih (tm.set g (.bool (.lit 1))) hp nx) (ih (putO d (.tup []) (tm.set g (.bool (.lit 0)))) hp nx))
            (mgOO e (ih (putO d (.tup []) (tm.set g (.bool (.lit 1)))) hp nx) (runC cf lo c d ih (tm.set g (.bool (.lit 0))) hp nx))
      | .tup l => match l with
        | [] => ih (putO d (.tup []) tm) hp nx
        | _ => none
      | _ => none
    | none => none
  | none => none
def runO (ops : Array Oper) (o : Oper) (ih : K) : K := match o.guard with
  | none => runC cf lo (cls P G o.op) o.dst ih
  | some g => match g with
    | (j, want) => runG cf lo ops (cls P G o.op) o.dst ih j want
def runL (ops : Array Oper) : List Oper → K
  | [] => fun tm hp nx => some (.done .normal tm hp nx)
  | o :: l => runO P G cf lo ops o (runL ops l)

/-! a region that draws its order: silent operations and loads first, then whatever may come up -/
def isSil (c : Cls) : Bool := match c with
  | .sil _ => true
  | _ => false
def isWrt (c : Cls) : Bool := match c with
  | .wrt _ => true
  | _ => false
def isLoad (o : Op) : Bool := match o with
  | .load _ _ => true
  | _ => false
inductive Sch where
  | done
  | take (i : Nat) (t : Sch)
  | one (i : Nat) (t : Sch)
  | two (i : Nat) (t : Sch) (j : Nat) (u : Sch)
def opAt (ops : Array Oper) (i : Nat) : Op := match ops[i]? with
  | some o => o.op
  | none => .panic (.func 0)
def depsIn (ops : Array Oper) (acc : List Nat) (j : Nat) : Bool := match ops[j]? with
  | some o => o.after.all fun e => !Region.binds .any e || Nat.ble j e.on || acc.contains e.on
  | none => false
/-- the greatest closed part of 'listed' without number i -/
def kept (ops : Array Oper) (listed : Array Bool) (i : Nat) : List Nat → List Nat → List Nat
  | [], acc => acc
  | j :: l, acc => kept ops listed i l (cond (Nat.beq j i) acc (cond (listed.getD j false) (cond (depsIn ops acc j) (j :: acc) acc) acc))
/-- may all that is no silent operation of 'listed' have come up without number i? -/
def pendB (ops : Array Oper) (listed : Array Bool) (i : Nat) : Bool :=
  let k := kept ops listed i (List.range ops.size) []
  (List.range ops.size).all fun j => !listed.getD j false || isSil (cls P G (opAt ops j)) || k.contains j
def findTake (ops : Array Oper) (listed : Array Bool) : List Nat → Option Nat
  | [] => none
  | i :: l => cond (isSil (cls P G (opAt ops i)) && Region.free .any ops listed i) (some i) (findTake ops listed l)
def mkSch (ops : Array Oper) : Nat → Array Bool → List Nat → Option Sch
  | 0, listed, _ => match Region.ready .any ops listed with
    | [] => some .done
    | _ => none
  | n + 1, listed, pd => match Region.ready .any ops listed with
    | [] => some .done
    | rs => match findTake P G ops listed rs with
      | some i => match mkSch ops n (listed.setIfInBounds i true) (cond (isLoad (opAt ops i)) (i :: pd) pd) with
        | some t => some (.take i t)
        | none => none
      | none => match rs with
        | [i] => match mkSch ops n (listed.setIfInBounds i true) pd with
          | some t => cond (isWrt (cls P G (opAt ops i)) && pd.any (pendB P G ops (listed.setIfInBounds i true))) none (some (.one i t))
          | none => none
        | [i, j] => match mkSch ops n (listed.setIfInBounds i true) pd with
          | some t => match mkSch ops n (listed.setIfInBounds j true) pd with
            | some u => cond (isWrt (cls P G (opAt ops i)) || isWrt (cls P G (opAt ops j))) none (some (.two i t j u))
            | none => none
          | none => none
        | _ => none
def sch (ops : Array Oper) : Option Sch := cond (Region.noSelect ops) (mkSch P G ops ops.size (Array.replicate ops.size false) []) none

/-! equality -/
mutual
def SV.beq : SV → SV → Bool
  | .bool a, .bool b => SE.beq a b
  | .int k a, .int l b => cond (decide (k = l)) (SE.beq a b) false
  | .str a, .str b => eqB a b
  | .ptr a i, .ptr b j => cond (Nat.beq a b) (Nat.beq i j) false
  | .gptr a i, .gptr b j => cond (Nat.beq a b) (Nat.beq i j) false
  | .nilp, .nilp => true
  | .sl a i n c, .sl b j m d => cond (Nat.beq a b) (cond (Nat.beq i j) (cond (Nat.beq n m) (capEq c d) false) false) false
  | .nils, .nils => true
  | .func f a, .func g b => cond (Nat.beq f g) (beqL a b) false
  | .nilf, .nilf => true
  | .agg a, .agg b => beqL a b
  | .tup a, .tup b => beqL a b
  | _, _ => false
def beqL : List SV → List SV → Bool
  | [], [] => true
  | a :: x, b :: y => cond (SV.beq a b) (beqL x y) false
  | _, _ => false
end
def beqOV (a b : Option SV) : Bool := match a with
  | some a => match b with
    | some b => SV.beq a b
    | none => false
  | none => match b with
    | some _ => false
    | none => true
def beqOB (a b : Option SBlk) : Bool := match a with
  | some ⟨t, x, e, f⟩ => match b with
    | some ⟨u, y, g, h⟩ => cond (Nat.beq t u) (cond (beqL x y) (cond (e == g) (f == h) false) false) false
    | none => false
  | none => match b with
    | some _ => false
    | none => true
def beqTV : Tr SV → Tr SV → Bool
  | .lf, .lf => true
  | .nd l v r, .nd l' v' r' => cond (beqOV v v') (cond (beqTV l l') (beqTV r r') false) false
  | _, _ => false
def beqTB : Tr SBlk → Tr SBlk → Bool
  | .lf, .lf => true
  | .nd l v r, .nd l' v' r' => cond (beqOB v v') (cond (beqTB l l') (beqTB r r') false) false
  | _, _ => false
def beqEx (a b : Ex) : Bool := match a with
  | .normal => match b with
    | .normal => true
    | _ => false
  | .ret => match b with
    | .ret => true
    | _ => false
  | .exit i => match b with
    | .exit j => Nat.beq i j
    | _ => false
def Out.beq : Out → Out → Bool
  | .done e tm hp nx, .done e' tm' hp' nx' => cond (beqEx e e') (cond (beqTV tm tm') (cond (beqTB hp hp') (Nat.beq nx nx') false) false) false
  | .split c t f, .split c' t' f' => cond (SE.beq c c') (cond (t.beq t') (f.beq f') false) false
  | _, _ => false
def eqO (a b : Option Out) : Option Out := match a with
  | some a => match b with
    | some b => cond (a.beq b) (some a) (cond ((mgO (.lit 1) a b).beq (mgO (.lit 0) a b)) (some (mgO (.lit 1) a b)) none)
    | none => none
  | none => none
def runI (ops : Array Oper) (i : Nat) (ih : K) : K := match ops[i]? with
  | some o => runO P G cf lo ops o ih
  | none => fun _ _ _ => none
def runS (ops : Array Oper) : Sch → K
  | .done => fun tm hp nx => some (.done .normal tm hp nx)
  | .take i t => runI P G cf lo ops i (runS ops t)
  | .one i t => runI P G cf lo ops i (runS ops t)
  | .two i t j u => fun tm hp nx => eqO (runI P G cf lo ops i (runS ops t) tm hp nx) (runI P G cf lo ops j (runS ops u) tm hp nx)
def runR (ops : Array Oper) (draw : Bool) : K := match draw with
  | false => runL P G cf lo ops ops.toList
  | true => match sch P G ops with
    | some t => runS P G cf lo ops t
    | none => fun _ _ _ => none

/-! code -/
def loopN (body : K) : Nat → K
  | 0 => fun _ _ _ => none
  | n + 1 => fun tm hp nx => bindO (body tm hp nx) (loopN body n)
def findS : List (SE × SE × Nat) → SE → Option (SE × Nat)
  | [], _ => none
  | (x, k, n) :: l, e => cond (SE.beq x e) (some (k, n)) (findS l e)
/-- where a number is known -/
def subV (k : SE) (c : Nat) (v : SV) : SV := match v with
  | .int i e => cond (SE.beq k e) (.int i (.lit (.ofNat c))) (.int i e)
  | v => v
def subO (k : SE) (c : Nat) (v : Option SV) : Option SV := match v with
  | some v => some (subV k c v)
  | none => none
def subT (k : SE) (c : Nat) : Tr SV → Tr SV
  | .lf => .lf
  | .nd l v r => .nd (subT k c l) (subO k c v) (subT k c r)
/-- a way for each number below n -/
def spread (k : SE) (run : Tr SV → Option Out) (tm : Tr SV) : Nat → Option Out
  | 0 => none
  | m + 1 => match m with
    | 0 => run (subT k 0 tm)
    | j + 1 => mgOO (mkEq k (.lit (.ofNat (j + 1)))) (run (subT k (j + 1) tm)) (spread k run tm m)
def condO (x : Option SV) (a : Tr SV → Option Out) (tm : Tr SV) (b : Option Out) : Option Out := match x with
  | some v => match v with
    | .bool e => match e with
      | .lit n => cond (int0 n) b (a tm)
      | e => match findS G.spl e with
        | some (k, n) => mgOO e (spread k a tm n) b
        | none => mgOO e (a tm) b
    | _ => none
  | none => none
def blockO (id : Nat) (o : Option Out) : Option Out := match o with
  | some o => some (o.mapE id)
  | none => none
def rounds : Nat := 3000
def exec : Code → K
  | .skip => fun tm hp nx => some (.done .normal tm hp nx)
  | .region _ ops draw => runR P G cf lo ops draw
  | .seq a b => fun tm hp nx => bindO (exec a tm hp nx) (exec b)
  | .cond x a b => fun tm hp nx => condO G (opv tm x) (fun tm => exec a tm hp nx) tm (exec b tm hp nx)
  | .block id a => fun tm hp nx => blockO id (exec a tm hp nx)
  | .loop a => loopN (exec a) rounds
  | .exit id => fun tm hp nx => some (.done (.exit id) tm hp nx)
  | .ret => fun tm hp nx => some (.done .ret tm hp nx)
  | _ => fun _ _ _ => none
def tmOf : List SV → Nat → Tr SV → Tr SV
  | [], _, t => t
  | v :: l, i, t => tmOf l (i + 1) (t.set i v)
def resV (tm : Tr SV) (hp : Tr SBlk) (r : ResultVar) : Option SV := match r with
  | .tmp t => tm.get t
  | .cell a t => match tm.get a with
    | some a => loadS P G hp t a
    | none => none
def resL (tm : Tr SV) (hp : Tr SBlk) : List ResultVar → Option (List SV)
  | [] => some []
  | r :: l => match resV P G tm hp r with
    | some v => match resL tm hp l with
      | some vs => some (v :: vs)
      | none => none
    | none => none
def resR (tm : Tr SV) (hp : Tr SBlk) (rs : List ResultVar) : Option SV := match resL P G tm hp rs with
  | some vs => match vs with
    | [v] => some v
    | vs => some (.tup vs)
  | none => none
def finR (hp : Tr SBlk) (nx : Nat) (v : Option SV) : Option (SV × Tr SBlk × Nat) := match v with
  | some v => some (v, hp, nx)
  | none => none
def mgR (c : SE) (a b : Option (SV × Tr SBlk × Nat)) : Option (SV × Tr SBlk × Nat) := match a with
  | some (v, h, n) => match b with
    | some (v', h', n') => match mgX c v v' with
      | some u => some (u, mgH c h h', maxN n n')
      | none => none
    | none => none
  | none => none
def finO (rs : List ResultVar) : Out → Option (SV × Tr SBlk × Nat)
  | .done e tm hp nx => match e with
    | .exit _ => none
    | .normal => finR hp nx (resR P G tm hp rs)
    | .ret => finR hp nx (resR P G tm hp rs)
  | .split c t f => mgR c (finO rs t) (finO rs f)
/-- no address in it -/
def flat0 (v : SV) : Bool := match v with
  | .bool _ => true
  | .int _ _ => true
  | .str _ => true
  | .nilp => true
  | .nils => true
  | .nilf => true
  | _ => false
def flatL : List SV → Bool
  | [] => true
  | v :: l => cond (flat0 v) (flatL l) false
def flat1 (v : SV) : Bool := match v with
  | .agg l => flatL l
  | v => flat0 v
def flat1L : List SV → Bool
  | [] => true
  | v :: l => cond (flat1 v) (flat1L l) false
def flat (v : SV) : Bool := match v with
  | .tup l => flat1L l
  | v => flat1 v
/-- the blocks that results lead to, brought into the caller's heap -/
def bring (h : Tr SBlk) : List SV → Tr SBlk → Option (Tr SBlk)
  | [], hp => some hp
  | v :: l, hp => match v with
    | .sl b _ _ _ => cond (Nat.ble lo b) (match h.get b with
      | some k => cond (flatL k.cells) (bring h l (hp.set b k)) none
      | none => none) (bring h l hp)
    | v => cond (flat1 v) (bring h l hp) none
def resCells (v : SV) : List SV := match v with
  | .tup l => l
  | v => [v]
def leave (hp : Tr SBlk) (r : Option (SV × Tr SBlk × Nat)) : Option (SV × Tr SBlk × Nat) := match r with
  | some (v, h, n) => cond (flat v) (some (v, hp, lo)) (match bring lo h (resCells v) hp with
    | some h' => some (v, h', n)
    | none => some (v, h, n))
  | none => none
/-! arguments without addresses, written out anew: the kernel knows such a call again -/
abbrev R := Option (SV × Tr SBlk × Nat)
def normN (n : Nat) (k : Nat → R) : R := match n with
  | 0 => k 0
  | n + 1 => k (n + 1)
def normK (i : IntKind) (k : IntKind → R) : R := match i with
  | .i8 => k .i8
  | .i16 => k .i16
  | .i32 => k .i32
  | .i64 => k .i64
  | .u8 => k .u8
  | .u16 => k .u16
  | .u32 => k .u32
  | .u64 => k .u64
def normO (i : BinOp) (k : BinOp → R) : R := match i with
  | .and => k .and
  | .or => k .or
  | .xor => k .xor
  | .andNot => k .andNot
  | o => k o
def normE : SE → (SE → R) → R
  | .lit x, k => match x with
    | .ofNat n => normN n fun n => k (.lit (.ofNat n))
    | .negSucc n => normN n fun n => k (.lit (.negSucc n))
  | .var i, k => normN i fun i => k (.var i)
  | .add a b, k => normE a fun a => normE b fun b => k (.add a b)
  | .sub a b, k => normE a fun a => normE b fun b => k (.sub a b)
  | .mul a b, k => normE a fun a => normE b fun b => k (.mul a b)
  | .tdiv a b, k => normE a fun a => normE b fun b => k (.tdiv a b)
  | .tmod a b, k => normE a fun a => normE b fun b => k (.tmod a b)
  | .shr a b, k => normE a fun a => normE b fun b => k (.shr a b)
  | .shl a b, k => normE a fun a => normE b fun b => k (.shl a b)
  | .md a b, k => normE a fun a => normN b fun b => k (.md a b)
  | .wrap i a, k => normK i fun i => normE a fun a => k (.wrap i a)
  | .bit o i a b, k => normO o fun o => normK i fun i => normE a fun a => normE b fun b => k (.bit o i a b)
  | .cat x b r, k => normE x fun x => normN b fun b => normE r fun r => k (.cat x b r)
  | .lt a b, k => normE a fun a => normE b fun b => k (.lt a b)
  | .eq a b, k => normE a fun a => normE b fun b => k (.eq a b)
  | .ite c a b, k => normE c fun c => normE a fun a => normE b fun b => k (.ite c a b)
  | .f1 c a, k => normN c fun c => normE a fun a => k (.f1 c a)
  | .f2 c a b, k => normN c fun c => normE a fun a => normE b fun b => k (.f2 c a b)
def normB : List UInt8 → (List UInt8 → R) → R
  | [], k => k []
  | c :: l, k => normB l fun l => k (c :: l)
def normV (v : SV) (k : SV → R) : R := match v with
  | .bool e => normE e fun e => k (.bool e)
  | .int i e => normK i fun i => normE e fun e => k (.int i e)
  | .str s => normB s fun s => k (.str s)
  | v => k v
def normL : List SV → (List SV → R) → R
  | [], k => k []
  | v :: l, k => normV v fun v => normL l fun l => k (v :: l)
def normW (v : SV) (k : SV → R) : R := match v with
  | .agg l => normL l fun l => k (.agg l)
  | v => normV v k
def normA : List SV → (List SV → R) → R
  | [], k => k []
  | v :: l, k => normW v fun v => normA l fun l => k (v :: l)
/-- results of a call in an empty heap, brought into a heap -/
def shiftV (nx : Nat) (v : SV) : SV := match v with
  | .sl b o n c => .sl (Nat.add nx b) o n c
  | v => v
def shiftL (nx : Nat) : List SV → List SV
  | [] => []
  | v :: l => shiftV nx v :: shiftL nx l
def bringE (nx : Nat) (h : Tr SBlk) : List SV → Tr SBlk → Option (Tr SBlk)
  | [], hp => some hp
  | v :: l, hp => match v with
    | .sl b _ _ _ => match h.get b with
      | some k => cond (flatL k.cells) (bringE nx h l (hp.set (Nat.add nx b) k)) none
      | none => none
    | v => cond (flat1 v) (bringE nx h l hp) none
def reloc (hp : Tr SBlk) (nx : Nat) (r : R) : R := match r with
  | some (v, h, n) => cond (flat v) (some (v, hp, nx)) (match v with
    | .sl b o m c => match bringE nx h [.sl b o m c] hp with
      | some hp => some (.sl (Nat.add nx b) o m c, hp, Nat.add nx n)
      | none => none
    | .tup l => match bringE nx h l hp with
      | some hp => some (.tup (shiftL nx l), hp, Nat.add nx n)
      | none => none
    | _ => none)
  | none => none
abbrev Sm := List SV → Tr SBlk → Nat → Option (SV × Tr SBlk × Nat)
variable (sums : Tr Sm)
def callH (cf : CF) (fn : Option Func) (args : List SV) (hp : Tr SBlk) (nx : Nat) : Option (SV × Tr SBlk × Nat) := match fn with
  | some fn => match fn.body with
    | some c => match exec P G cf nx c (tmOf args 0 .lf) hp nx with
      | some o => leave nx hp (finO P G fn.results.toList o)
      | none => none
    | none => none
  | none => none
def callB (cf : CF) (fn : Option Func) (args : List SV) (hp : Tr SBlk) (nx : Nat) : R :=
  cond (flat1L args) (normA args fun args => reloc hp nx (callH P G cf fn args .lf 0)) (callH P G cf fn args hp nx)
def callS (s : Option Sm) (cf : CF) (fn : Option Func) (args : List SV) (hp : Tr SBlk) (nx : Nat) : Option (SV × Tr SBlk × Nat) := match s with
  | some s => match s args hp nx with
    | some r => some r
    | none => callB P G cf fn args hp nx
  | none => callB P G cf fn args hp nx
def call : Nat → CF
  | 0 => fun _ _ _ _ => none
  | n + 1 => fun f args hp nx => callS P G (sums.get f) (call n) P.funcs[f]? args hp nx

end Sx
end Go.Proofs.YtfdggebddcoeeaaGreatDoor
end

/-
  What symbolic values stand for, how a symbolic state stands to a real one; trees; operands.
-/
noncomputable section
namespace Go.Proofs.YtfdggebddcoeeaaGreatDoor
namespace Sx
open Go Go.RowKit

/-! trees -/
section
variable {α : Type}
theorem Tr.get_lf (k : Nat) : (Tr.lf : Tr α).get k = none := rfl
theorem Tr.get_zero (l r : Tr α) (v : Option α) : (Tr.nd l v r).get 0 = v := rfl
theorem Tr.get_even (l r : Tr α) (v : Option α) (j : Nat) (h : Nat.beq (Nat.mod j 2) 0 = true) : (Tr.nd l v r).get (j + 1) = l.get (Nat.div j 2) := by
  show Bool.rec (motive := fun _ => Option α) (r.get (Nat.div j 2)) (l.get (Nat.div j 2)) (Nat.beq (Nat.mod j 2) 0) = _
  rw [h]
theorem Tr.get_odd (l r : Tr α) (v : Option α) (j : Nat) (h : Nat.beq (Nat.mod j 2) 0 = false) : (Tr.nd l v r).get (j + 1) = r.get (Nat.div j 2) := by
  show Bool.rec (motive := fun _ => Option α) (r.get (Nat.div j 2)) (l.get (Nat.div j 2)) (Nat.beq (Nat.mod j 2) 0) = _
  rw [h]
theorem half_eq {i j : Nat} (hi : Nat.beq (Nat.mod i 2) 0 = Nat.beq (Nat.mod j 2) 0) (h : Nat.div i 2 = Nat.div j 2) : i = j := by
  have h' : i / 2 = j / 2 := h
  cases h1 : Nat.beq (Nat.mod i 2) 0
  · have a1 : ¬ i % 2 = 0 := fun e => by
      have : Nat.beq (Nat.mod i 2) 0 = true := by rw [show Nat.mod i 2 = 0 from e]; rfl
      rw [this] at h1; cases h1
    have a2 : ¬ j % 2 = 0 := fun e => by
      have : Nat.beq (Nat.mod j 2) 0 = true := by rw [show Nat.mod j 2 = 0 from e]; rfl
      rw [hi, this] at h1; cases h1
    omega
  · have a1 : i % 2 = 0 := Nat.eq_of_beq_eq_true h1
    have a2 : j % 2 = 0 := Nat.eq_of_beq_eq_true (hi ▸ h1)
    omega
theorem Tr.get_sing (n : Nat) : ∀ (k : Nat) (o : Option α) (k' : Nat) (x : α), (Tr.sing n k o).get k' = some x → k' = k ∧ o = some x := by
  induction n with
  | zero => intro k o k' x h; cases h
  | succ n ih =>
    intro k o k' x h
    cases k with
    | zero =>
      have h2 : (Tr.nd .lf o .lf : Tr α).get k' = some x := h
      cases k' with
      | zero => exact ⟨rfl, h2⟩
      | succ j =>
        cases hb : Nat.beq (Nat.mod j 2) 0
        · rw [Tr.get_odd _ _ _ _ hb] at h2; cases h2
        · rw [Tr.get_even _ _ _ _ hb] at h2; cases h2
    | succ i =>
      have h2 : (Bool.rec (motive := fun _ => Tr α) (.nd .lf none (Tr.sing n (Nat.div i 2) o)) (.nd (Tr.sing n (Nat.div i 2) o) none .lf) (Nat.beq (Nat.mod i 2) 0) : Tr α).get k' = some x := h
      cases hi : Nat.beq (Nat.mod i 2) 0 <;> rw [hi] at h2 <;> cases k' with
      | zero => cases h2
      | succ j =>
        cases hb : Nat.beq (Nat.mod j 2) 0
        · rw [Tr.get_odd _ _ _ _ hb] at h2
          first
            | (cases h2; done)
            | (obtain ⟨e1, e2⟩ := ih _ _ _ _ h2; exact ⟨by rw [half_eq (by rw [hb, hi]) e1], e2⟩)
        · rw [Tr.get_even _ _ _ _ hb] at h2
          first
            | (cases h2; done)
            | (obtain ⟨e1, e2⟩ := ih _ _ _ _ h2; exact ⟨by rw [half_eq (by rw [hb, hi]) e1], e2⟩)
theorem Tr.get_upd (t : Tr α) : ∀ (k : Nat) (o : Option α) (k' : Nat) (x : α), (t.upd k o).get k' = some x → (k' = k ∧ o = some x) ∨ (k' ≠ k ∧ t.get k' = some x) := by
  induction t with
  | lf =>
    intro k o k' x h
    exact .inl (Tr.get_sing 40 k o k' x h)
  | nd l v r ihl ihr =>
    intro k o k' x h
    cases k with
    | zero =>
      have h2 : (Tr.nd l o r : Tr α).get k' = some x := h
      cases k' with
      | zero => exact .inl ⟨rfl, h2⟩
      | succ j =>
        refine .inr ⟨by simp, ?_⟩
        cases hb : Nat.beq (Nat.mod j 2) 0
        · rw [Tr.get_odd _ _ _ _ hb] at h2 ⊢; exact h2
        · rw [Tr.get_even _ _ _ _ hb] at h2 ⊢; exact h2
    | succ i =>
      have h2 : (Bool.rec (motive := fun _ => Tr α) (.nd l v (r.upd (Nat.div i 2) o)) (.nd (l.upd (Nat.div i 2) o) v r) (Nat.beq (Nat.mod i 2) 0) : Tr α).get k' = some x := h
      cases hi : Nat.beq (Nat.mod i 2) 0 <;> rw [hi] at h2 <;> cases k' with
      | zero => exact .inr ⟨by simp, h2⟩
      | succ j =>
        cases hb : Nat.beq (Nat.mod j 2) 0
        all_goals
          first
            | (rw [Tr.get_odd _ _ _ _ hb] at h2 ⊢)
            | (rw [Tr.get_even _ _ _ _ hb] at h2 ⊢)
          first
            | (rcases ihr _ _ _ _ h2 with ⟨e1, e2⟩ | ⟨e1, e2⟩
               · exact .inl ⟨by rw [half_eq (by rw [hb, hi]) e1], e2⟩
               · exact .inr ⟨fun e => e1 (by cases e; rfl), e2⟩)
            | (rcases ihl _ _ _ _ h2 with ⟨e1, e2⟩ | ⟨e1, e2⟩
               · exact .inl ⟨by rw [half_eq (by rw [hb, hi]) e1], e2⟩
               · exact .inr ⟨fun e => e1 (by cases e; rfl), e2⟩)
            | exact .inr ⟨fun e => (by cases e; rw [hi] at hb; cases hb), h2⟩
theorem Tr.get_set {t : Tr α} {k : Nat} {v : α} {k' : Nat} {x : α} (h : (t.set k v).get k' = some x) : (k' = k ∧ v = x) ∨ (k' ≠ k ∧ t.get k' = some x) := by
  rcases Tr.get_upd t k (some v) k' x h with ⟨e, h⟩ | h
  · exact .inl ⟨e, by injection h⟩
  · exact .inr h
theorem Tr.get_del {t : Tr α} {k : Nat} {k' : Nat} {x : α} (h : (t.del k).get k' = some x) : k' ≠ k ∧ t.get k' = some x := by
  rcases Tr.get_upd t k none k' x h with ⟨_, h⟩ | h
  · cases h
  · exact h
end

/-! values -/
variable (E : Env) (loc : Nat → Nat × Nat)
def Cap.den (b : Nat) (c : Cap) : Nat := match c with
  | .ex n => n
  | .gr d => (loc b).2 - d
mutual
def SV.den : SV → Value
  | .bool e => .bool (decide (e.den E ≠ 0))
  | .int k e => .int k (e.den E)
  | .str s => .string ⟨s.toArray⟩
  | .ptr b off => .pointer (some ⟨(loc b).1, off, none⟩)
  | .gptr g off => .pointer (some ⟨g, off, none⟩)
  | .nilp => .pointer none
  | .sl b off len c => .slice (some ⟨(loc b).1, off, none⟩) len (c.den loc b)
  | .nils => .slice none 0 0
  | .func f caps => .func (.func f) #[] (denL caps).toArray
  | .nilf => .nilFunc
  | .agg cs => .agg (denL cs).toArray
  | .tup vs => .tuple (denL vs).toArray
def denL : List SV → List Value
  | [] => []
  | v :: l => SV.den v :: denL l
end
mutual
def SV.wf (nx : Nat) : SV → Prop
  | .int k e => inR k (e.den E)
  | .ptr b _ => b < nx
  | .sl b _ _ _ => b < nx
  | .func _ caps => wfL nx caps
  | .agg cs => wfL nx cs
  | .tup vs => wfL nx vs
  | _ => True
def wfL (nx : Nat) : List SV → Prop
  | [] => True
  | v :: l => SV.wf nx v ∧ wfL nx l
end
theorem denL_eq (l : List SV) : denL E loc l = l.map (SV.den E loc) := by
  induction l with
  | nil => rfl
  | cons v l ih => simp [denL, ih]
theorem wfL_iff (nx : Nat) (l : List SV) : wfL E nx l ↔ ∀ v ∈ l, v.wf E nx := by
  induction l with
  | nil => simp [wfL]
  | cons v l ih => simp [wfL, ih]
mutual
theorem SV.den_congr {loc' : Nat → Nat × Nat} {nx : Nat} (h : ∀ b, b < nx → loc' b = loc b) : ∀ v : SV, v.wf E nx → v.den E loc' = v.den E loc
  | .bool _, _ => rfl
  | .int _ _, _ => rfl
  | .str _, _ => rfl
  | .ptr b off, hv => by simp only [SV.den, h b hv]
  | .gptr _ _, _ => rfl
  | .nilp, _ => rfl
  | .sl b off len c, hv => by cases c <;> simp only [SV.den, Cap.den, h b hv]
  | .nils, _ => rfl
  | .func f caps, hv => by simp only [SV.den, denL_congr h caps hv]
  | .nilf, _ => rfl
  | .agg cs, hv => by simp only [SV.den, denL_congr h cs hv]
  | .tup vs, hv => by simp only [SV.den, denL_congr h vs hv]
theorem denL_congr {loc' : Nat → Nat × Nat} {nx : Nat} (h : ∀ b, b < nx → loc' b = loc b) : ∀ l : List SV, wfL E nx l → denL E loc' l = denL E loc l
  | [], _ => rfl
  | v :: l, hv => by simp only [denL, SV.den_congr h v hv.1, denL_congr h l hv.2]
end
mutual
theorem SV.wf_mono {nx nx' : Nat} (h : nx ≤ nx') : ∀ v : SV, v.wf E nx → v.wf E nx'
  | .bool _, _ => trivial
  | .int _ _, hv => hv
  | .str _, _ => trivial
  | .ptr _ _, hv => Nat.lt_of_lt_of_le hv h
  | .gptr _ _, _ => trivial
  | .nilp, _ => trivial
  | .sl _ _ _ _, hv => Nat.lt_of_lt_of_le hv h
  | .nils, _ => trivial
  | .func _ caps, hv => wfL_mono h caps hv
  | .nilf, _ => trivial
  | .agg cs, hv => wfL_mono h cs hv
  | .tup vs, hv => wfL_mono h vs hv
theorem wfL_mono {nx nx' : Nat} (h : nx ≤ nx') : ∀ l : List SV, wfL E nx l → wfL E nx' l
  | [], _ => trivial
  | v :: l, hv => ⟨SV.wf_mono h v hv.1, wfL_mono h l hv.2⟩
end
theorem cellsOf_den (v : SV) : (v.den E loc).cells = (denL E loc (cellsOf v)).toArray := by
  cases v <;> simp [SV.den, cellsOf, Value.cells, denL]
theorem cellsOf_wf {nx : Nat} {v : SV} (h : v.wf E nx) : wfL E nx (cellsOf v) := by
  cases v <;> first | exact h | exact ⟨h, trivial⟩
theorem oneC_den {v : SV} (h : oneC v = true) : (v.den E loc).oneCell' = true := by
  cases v <;> first | rfl | (simp [oneC] at h)
theorem allOne_den {l : List SV} (h : allOne l = true) : ∀ u ∈ denL E loc l, u.oneCell' = true := by
  induction l with
  | nil => simp [denL]
  | cons v l ih =>
    simp only [allOne] at h
    cases hv : oneC v <;> rw [hv] at h
    · cases h
    · intro u hu
      simp only [denL, List.mem_cons] at hu
      rcases hu with rfl | hu
      · exact oneC_den E loc hv
      · exact ih h u hu
theorem allOne_append {l m : List SV} : allOne (l ++ m) = true ↔ allOne l = true ∧ allOne m = true := by
  induction l with
  | nil => simp [allOne]
  | cons v l ih => simp only [List.cons_append, allOne]; cases oneC v <;> simp [ih]
theorem allOne_iff (l : List SV) : allOne l = true ↔ ∀ v ∈ l, oneC v = true := by
  induction l with
  | nil => simp [allOne]
  | cons v l ih => simp only [allOne, List.mem_cons, forall_eq_or_imp]; cases oneC v <;> simp [ih]
theorem denL_append (l m : List SV) : denL E loc (l ++ m) = denL E loc l ++ denL E loc m := by simp [denL_eq]
theorem denL_length (l : List SV) : (denL E loc l).length = l.length := by simp [denL_eq]

/-! a state -/
variable (P : Program) (G : Gl)
/-- block b is there, and as the symbolic heap has it -/
def BRel (w : World) (b : Nat) (k : SBlk) : Prop :=
  ∃ cur fz rest, w.heap[(loc b).1]? = some (.cells cur k.ty fz) ∧ (k.fr = false → fz = (0, 0)) ∧ cur.toList = denL E loc k.cells ++ rest ∧
    (k.ex = true → rest = []) ∧ (k.ex = false → cur.size = (loc b).2 * szOf P k.ty ∧ (loc b).2 ≤ maxLen ∧ ∃ n, k.cells.length = n * szOf P k.ty)
structure HRel (nx : Nat) (hp : Tr SBlk) (w : World) : Prop where
  lt : ∀ b k, hp.get b = some k → b < nx
  rel : ∀ b k, hp.get b = some k → BRel E loc P w b k
  wf : ∀ b k, hp.get b = some k → wfL E nx k.cells
  one : ∀ b k, hp.get b = some k → allOne k.cells = true
  inj : ∀ b k b' k', hp.get b = some k → hp.get b' = some k' → (loc b).1 = (loc b').1 → b = b'
def TRel (nx : Nat) (tm : Tr SV) (tmps : Array Value) : Prop :=
  ∀ t v, tm.get t = some v → tmps[t]? = some (v.den E loc) ∧ v.wf E nx
/-- the listed package-level variables -/
def KOk : Prop := (∀ p ∈ G.keys, p.1.den E = p.2.den E) ∧ ∀ s ∈ G.spl, s.1.den E ≠ 0 → ∃ c : Nat, c < s.2.2 ∧ s.2.1.den E = c
def GOk (w : World) : Prop := KOk E G ∧ ∀ g i v, (G.tab g).get i = some v → (∀ loc, w.cell? ⟨g, i, none⟩ = some (v.den E loc)) ∧ v.wf E 0 ∧ oneC v = true

theorem ofVal_ok {c : Value} {v : SV} (h : ofVal c = some v) (nx : Nat) : v.den E loc = c ∧ v.wf E nx := by
  cases c <;> simp only [ofVal] at h <;> try (cases h; done)
  case bool b => cases h; cases b <;> exact ⟨rfl, trivial⟩
  case int k n =>
    cases h1 : intLt n k.min <;> rw [h1] at h
    · cases h2 : intLt k.max n <;> rw [h2] at h
      · cases h
        refine ⟨rfl, ?_⟩
        have a1 : ¬ n < k.min := fun e => by rw [(intLt_iff _ _).2 e] at h1; cases h1
        have a2 : ¬ k.max < n := fun e => by rw [(intLt_iff _ _).2 e] at h2; cases h2
        show k.min ≤ n ∧ n ≤ k.max
        omega
      · cases h
    · cases h
  case string s => cases h; exact ⟨by simp [SV.den], trivial⟩
  case pointer a => cases a <;> cases h; exact ⟨rfl, trivial⟩
  case slice a n c =>
    cases a with
    | some a => cases h
    | none =>
      simp only at h
      cases h1 : Nat.beq n 0 <;> rw [h1] at h
      · cases h
      · cases h2 : Nat.beq c 0 <;> rw [h2] at h
        · cases h
        · cases h
          rw [Nat.eq_of_beq_eq_true h1, Nat.eq_of_beq_eq_true h2]
          exact ⟨rfl, trivial⟩
  case nilFunc => cases h; exact ⟨rfl, trivial⟩
theorem opv_ok {nx : Nat} {tm : Tr SV} {a : Act} (ht : TRel E loc nx tm a.tmps) {x : Operand} {v : SV} (h : opv tm x = some v) : a.eval x = v.den E loc ∧ v.wf E nx := by
  cases x with
  | tmp t =>
    obtain ⟨h1, h2⟩ := ht t v h
    exact ⟨by simp [Act.eval, h1], h2⟩
  | const c => obtain ⟨h1, h2⟩ := ofVal_ok E loc h nx; exact ⟨h1.symm, h2⟩
  | global g => cases h; exact ⟨rfl, trivial⟩
  | func f => cases h; exact ⟨rfl, trivial⟩
theorem opsv_ok {nx : Nat} {tm : Tr SV} {a : Act} (ht : TRel E loc nx tm a.tmps) : ∀ {l : List Operand} {vs : List SV}, opsv tm l = some vs → l.map a.eval = denL E loc vs ∧ wfL E nx vs := by
  intro l
  induction l with
  | nil => intro vs h; cases h; exact ⟨rfl, trivial⟩
  | cons x l ih =>
    intro vs h
    simp only [opsv] at h
    cases hv : opv tm x with
    | none => rw [hv] at h; cases h
    | some v =>
      cases hus : opsv tm l with
      | none => rw [hv, hus] at h; cases h
      | some us =>
        rw [hv, hus] at h
        cases h
        obtain ⟨h1, h2⟩ := opv_ok E loc ht hv
        obtain ⟨h3, h4⟩ := ih hus
        exact ⟨by simp [denL, h1, h3], h2, h4⟩
theorem litN_ok {v : SV} {n : Nat} (h : litN v = some n) : ∃ k, v = .int k (.lit (.ofNat n)) := by
  unfold litN at h
  repeat' (split at h)
  all_goals first | (cases h; done) | (cases h; exact ⟨_, rfl⟩)
theorem opN_ok {nx : Nat} {tm : Tr SV} {a : Act} (ht : TRel E loc nx tm a.tmps) {x : Operand} {n : Nat} (h : opN tm x = some n) : ∃ k, a.eval x = .int k (n : Int) ∧ inR k (n : Int) := by
  unfold opN at h
  split at h
  · rename_i v hv
    obtain ⟨k, rfl⟩ := litN_ok h
    obtain ⟨h1, h2⟩ := opv_ok E loc ht hv
    exact ⟨k, h1, h2⟩
  · cases h

end Sx
end Go.Proofs.YtfdggebddcoeeaaGreatDoor
end

/-
  Each silent operation does what the evaluator says: it leaves this value and turns nothing.
-/
noncomputable section
namespace Go.Proofs.YtfdggebddcoeeaaGreatDoor
namespace Sx
open Go Go.RowKit
variable (E : Env) (loc : Nat → Nat × Nat) (P : Program) (G : Gl)

/-! ranges -/
theorem inR_wrap (k : IntKind) (x : Int) : inR k (k.wrap x) := by
  cases k <;> simp [inR, IntKind.min, IntKind.max, IntKind.signed, IntKind.bits, IntKind.wrap] <;> omega
theorem inR_ediv {k : IntKind} {x : Int} (h : inR k x) (n : Nat) : inR k (x / 2 ^ n) := by
  have hp := two_pow_pos n
  rcases Int.lt_or_le x 0 with hx | hx
  · have h1 : x ≤ x / 2 ^ n := by
      have := Int.mul_ediv_add_emod x (2 ^ n)
      have h2 := Int.emod_nonneg x (show (2 : Int) ^ n ≠ 0 by omega)
      have h3 : x / 2 ^ n < 0 := Int.ediv_neg_of_neg_of_pos hx hp
      have h4 : 2 ^ n * (x / 2 ^ n) ≤ 1 * (x / 2 ^ n) := Int.mul_le_mul_of_nonpos_right (by omega) (by omega)
      have h5 := Int.emod_lt_of_pos x hp
      rcases Int.lt_or_le (x / 2 ^ n) x with h6 | h6
      · have h7 : x / 2 ^ n ≤ x - 1 := by omega
        have h8 : 2 ^ n * (x / 2 ^ n) ≤ 2 ^ n * (x - 1) := Int.mul_le_mul_of_nonneg_left h7 (by omega)
        have h9 : 2 ^ n * (x - 1) ≤ 1 * (x - 1) := Int.mul_le_mul_of_nonpos_right (by omega) (by omega)
        have h10 : x = 2 ^ n * (x / 2 ^ n) + x % 2 ^ n := by omega
        have h11 : 2 ^ n * (x - 1) = 2 ^ n * x - 2 ^ n := by rw [Int.mul_sub]; omega
        have h12 : 2 ^ n * x ≤ 1 * x := Int.mul_le_mul_of_nonpos_right (by omega) (by omega)
        omega
      · exact h6
    have h3 : x / 2 ^ n < 0 := Int.ediv_neg_of_neg_of_pos hx hp
    have hm : 0 ≤ k.max := by cases k <;> simp [IntKind.max, IntKind.signed, IntKind.bits]
    exact ⟨Int.le_trans h.1 h1, by omega⟩
  · have h1 : x / 2 ^ n ≤ x := Int.ediv_le_self _ hx
    have h2 : 0 ≤ x / 2 ^ n := Int.ediv_nonneg hx (by omega)
    have hm : k.min ≤ 0 := by cases k <;> simp [IntKind.min, IntKind.signed, IntKind.bits]
    exact ⟨by omega, Int.le_trans h1 h.2⟩
theorem inR_bitsI (o : BinOp) (k : IntKind) (x y : Int) : inR k (bitsI o k x y) := inR_wrap _ _
theorem tmod_le (m : Nat) (y : Int) : (m : Int).tmod y ≤ m := by
  obtain ⟨n, hn⟩ : ∃ n : Nat, y = n ∨ y = -n := ⟨y.natAbs, Int.natAbs_eq y⟩
  have := Nat.mod_le m n
  rw [Int.tmod_eq_emod_of_nonneg (by omega)]
  rcases hn with rfl | rfl
  · exact_mod_cast this
  · rw [Int.emod_neg]; exact_mod_cast this
theorem inR_tmod {k : IntKind} {x : Int} (h : inR k x) (y : Int) : inR k (x.tmod y) := by
  have hm : 0 ≤ k.max := by cases k <;> simp [IntKind.max, IntKind.signed, IntKind.bits]
  have hn : k.min ≤ 0 := by cases k <;> simp [IntKind.min, IntKind.signed, IntKind.bits]
  have h1 := h.1
  have h2 := h.2
  rcases Int.lt_or_le x 0 with hx | hx
  · have a1 : x ≤ x.tmod y := by
      have e : x.tmod y = -((-x).tmod y) := by rw [Int.neg_tmod]; omega
      have : (-x).tmod y ≤ -x := by
        obtain ⟨m, hm⟩ := Int.eq_ofNat_of_zero_le (show 0 ≤ -x by omega)
        rw [hm]
        exact tmod_le m y
      omega
    have a2 : x.tmod y ≤ 0 := by
      have e : x.tmod y = -((-x).tmod y) := by rw [Int.neg_tmod]; omega
      have : 0 ≤ (-x).tmod y := Int.tmod_nonneg _ (by omega)
      omega
    exact ⟨by omega, by omega⟩
  · have a1 : 0 ≤ x.tmod y := Int.tmod_nonneg _ hx
    have a2 : x.tmod y ≤ x := by
      obtain ⟨m, rfl⟩ := Int.eq_ofNat_of_zero_le hx
      exact tmod_le m y
    exact ⟨by omega, by omega⟩
theorem bits_eq (o : BinOp) (k : IntKind) (x y : Int) : bits o k x y = bitsI o k x y := by
  unfold bits bitsI
  cases o <;> rfl
theorem den_bool {e : SE} {p : Prop} [Decidable p] (h : e.den E = if p then 1 else 0) : decide (e.den E ≠ 0) = decide p := by
  rw [h]; split <;> simp_all

/-! two numbers -/
theorem quoI_ok {k : IntKind} {a b : SE} {v : SV} (h : quoI k a b = some v) (ha : inR k (a.den E)) : v.den E loc = .int k (k.wrap ((a.den E).tdiv (b.den E))) ∧ b.den E ≠ 0 ∧ v.wf E 0 := by
  unfold quoI at h
  cases b <;> try (cases h; done)
  rename_i y
  simp only at h
  cases hy : int0 y <;> rw [hy] at h <;> simp only [cond] at h <;> try (cases h; done)
  have hy' : y ≠ 0 := fun e => by rw [(int0_iff y).2 e] at hy; cases hy
  have gen : ∀ a : SE, (SV.int k (mkWrap k (.tdiv a (.lit y)))).den E loc = .int k (k.wrap ((a.den E).tdiv y)) ∧ y ≠ 0 ∧ (SV.int k (mkWrap k (.tdiv a (.lit y)))).wf E 0 := fun a => by
    refine ⟨?_, hy', ?_⟩
    · simp only [SV.den, mkWrap_den, SE.den]
    · simp only [SV.wf, mkWrap_den]; exact inR_wrap _ _
  have u64 : ∀ a : SE, inR .u64 (a.den E) → ∀ v, (match y with
        | .ofNat n => match lg n with
          | some j => some (SV.int .u64 (mkShr a j))
          | none => some (.int .u64 (mkWrap .u64 (.tdiv a (.lit (.ofNat n)))))
        | .negSucc _ => none) = some v → v.den E loc = .int .u64 (IntKind.u64.wrap ((a.den E).tdiv y)) ∧ y ≠ 0 ∧ v.wf E 0 := by
    intro a ha v h
    cases y with
    | negSucc _ => cases h
    | ofNat n =>
      simp only at h
      cases hj : lg n with
      | none =>
        rw [hj] at h; cases h
        refine ⟨?_, hy', ?_⟩
        · simp only [SV.den, mkWrap_den, SE.den]
        · simp only [SV.wf, mkWrap_den]; exact inR_wrap _ _
      | some j =>
        rw [hj] at h; cases h
        have hn := lg_ok hj
        have h0 := (inR_unsigned rfl ha).1
        have e : (Int.ofNat n) = (2 : Int) ^ j := by rw [hn]; simp
        have e2 : (a.den E).tdiv (Int.ofNat n) = a.den E / 2 ^ j := by rw [e, Int.tdiv_eq_ediv_of_nonneg h0]
        have e3 : IntKind.u64.wrap (a.den E / 2 ^ j) = a.den E / 2 ^ j := by
          have := inR_unsigned (k := .u64) rfl (inR_ediv ha j)
          exact wrap_small this
        refine ⟨?_, hy', ?_⟩
        · simp only [SV.den, mkShr_den, e2, e3]
        · simp only [SV.wf, mkShr_den]; exact inR_ediv ha j
  cases a <;> first
    | (cases h; refine ⟨rfl, hy', ?_⟩; exact inR_wrap _ _)
    | (cases k <;> first | (cases h; exact gen _) | exact u64 _ ha _ h)
theorem remI_ok {k : IntKind} {a b : SE} {v : SV} (h : remI k a b = some v) (ha : inR k (a.den E)) : v.den E loc = .int k ((a.den E).tmod (b.den E)) ∧ b.den E ≠ 0 ∧ v.wf E 0 := by
  unfold remI at h
  cases b <;> try (cases h; done)
  rename_i y
  simp only at h
  cases hy : int0 y <;> rw [hy] at h <;> simp only [cond] at h <;> try (cases h; done)
  have hy' : y ≠ 0 := fun e => by rw [(int0_iff y).2 e] at hy; cases hy
  have gen : ∀ a : SE, inR k (a.den E) → (SV.int k (.tmod a (.lit y))).den E loc = .int k ((a.den E).tmod y) ∧ y ≠ 0 ∧ (SV.int k (.tmod a (.lit y))).wf E 0 := fun a ha => by
    refine ⟨rfl, hy', ?_⟩
    exact inR_tmod ha _
  have u64 : ∀ a : SE, inR .u64 (a.den E) → ∀ v, (match y with
        | .ofNat n => match lg n with
          | some j => some (SV.int .u64 (mkMd a j))
          | none => some (.int .u64 (.tmod a (.lit (.ofNat n))))
        | .negSucc _ => none) = some v → v.den E loc = .int .u64 ((a.den E).tmod y) ∧ y ≠ 0 ∧ v.wf E 0 := by
    intro a ha v h
    cases y with
    | negSucc _ => cases h
    | ofNat n =>
      simp only at h
      cases hj : lg n with
      | none =>
        rw [hj] at h; cases h
        refine ⟨rfl, hy', ?_⟩
        exact inR_tmod ha _
      | some j =>
        rw [hj] at h; cases h
        have hn := lg_ok hj
        have h0 := (inR_unsigned rfl ha).1
        have e : (Int.ofNat n) = (2 : Int) ^ j := by rw [hn]; simp
        have e2 : (a.den E).tmod (Int.ofNat n) = a.den E % 2 ^ j := by rw [e, Int.tmod_eq_emod_of_nonneg h0]
        refine ⟨?_, hy', ?_⟩
        · simp only [SV.den, mkMd_den, e2]
        · simp only [SV.wf, mkMd_den, ← e2]; exact inR_tmod ha _
  cases a <;> first
    | (cases h; refine ⟨rfl, hy', ?_⟩; exact inR_tmod ha _)
    | (cases k <;> first | (cases h; exact gen _ ha) | exact u64 _ ha _ h)

theorem amt_ok (k : IntKind) (b : SE) (h : 0 ≤ b.den E) : ((amt k b).den E).toNat = min (b.den E).toNat k.bits := by
  simp only [amt, mkIte_den, mkLt_den, natLit_den]
  by_cases h1 : b.den E < (k.bits : Int)
  · simp [h1]; omega
  · simp [h1]; omega
theorem min_cond (n m : Nat) : (cond (Nat.ble n m) n m) = min n m := by
  cases h : Nat.ble n m
  · have : ¬ n ≤ m := fun e => by rw [Nat.ble_eq_true_of_le e] at h; cases h
    simp only [cond]; omega
  · have := Nat.le_of_ble_eq_true h
    simp only [cond]; omega
theorem nonneg_of_unsigned {l : IntKind} {x : Int} (hl : l.signed = false) (h : inR l x) : 0 ≤ x := (inR_unsigned hl h).1
theorem shlI_ok {k l : IntKind} {a b : SE} {v : SV} (h : shlI k a l b = some v) (hb : inR l (b.den E)) : 0 ≤ b.den E ∧ v.den E loc = .int k (k.wrap (a.den E * 2 ^ min (b.den E).toNat k.bits)) ∧ v.wf E 0 := by
  unfold shlI at h
  have gen : ∀ b : SE, inR l (b.den E) → (cond l.signed none (some (SV.int k (.wrap k (.shl a (amt k b)))))) = some v → 0 ≤ b.den E ∧ v.den E loc = .int k (k.wrap (a.den E * 2 ^ min (b.den E).toNat k.bits)) ∧ v.wf E 0 := by
    intro b hb h
    cases hl : l.signed <;> rw [hl] at h <;> cases h
    have h0 := nonneg_of_unsigned hl hb
    refine ⟨h0, ?_, inR_wrap _ _⟩
    simp only [SV.den, SE.den, amt_ok E k b h0]
  cases b <;> try exact gen _ hb h
  rename_i y
  cases y with
  | negSucc _ => cases h
  | ofNat n =>
    cases h
    refine ⟨by simp [SE.den], ?_, ?_⟩
    · simp only [SV.den, mkWrap_den, mkShl_den, min_cond, natLit_den, Int.toNat_natCast]
    · simp only [SV.wf, mkWrap_den]; exact inR_wrap _ _
theorem shrI_ok {k l : IntKind} {a b : SE} {v : SV} (h : shrI k a l b = some v) (ha : inR k (a.den E)) (hb : inR l (b.den E)) : 0 ≤ b.den E ∧ v.den E loc = .int k (a.den E / 2 ^ min (b.den E).toNat k.bits) ∧ v.wf E 0 := by
  unfold shrI at h
  have gen : ∀ b : SE, inR l (b.den E) → (cond l.signed none (some (SV.int k (.shr a (amt k b))))) = some v → 0 ≤ b.den E ∧ v.den E loc = .int k (a.den E / 2 ^ min (b.den E).toNat k.bits) ∧ v.wf E 0 := by
    intro b hb h
    cases hl : l.signed <;> rw [hl] at h <;> cases h
    have h0 := nonneg_of_unsigned hl hb
    refine ⟨h0, ?_, inR_ediv ha _⟩
    simp only [SV.den, SE.den, amt_ok E k b h0]
  cases b <;> try exact gen _ hb h
  rename_i y
  cases y with
  | negSucc _ => cases h
  | ofNat n =>
    cases h
    refine ⟨by simp [SE.den], ?_, ?_⟩
    · simp only [SV.den, mkShr_den, min_cond, natLit_den, Int.toNat_natCast]
    · simp only [SV.wf, mkShr_den]; exact inR_ediv ha _
theorem run_shl (w : World) (k l : IntKind) (x y : Int) (t : TypeId) (h : 0 ≤ y) : (binOp .shl t (.int k x) (.int l y)).run P w = .ok (.int k (k.wrap (x * 2 ^ min y.toNat k.bits))) w := by
  have : ¬ y < 0 := by omega
  simp [binOp, Op.shift, this]
theorem run_shr (w : World) (k l : IntKind) (x y : Int) (t : TypeId) (h : 0 ≤ y) : (binOp .shr t (.int k x) (.int l y)).run P w = .ok (.int k (x / 2 ^ min y.toNat k.bits)) w := by
  have : ¬ y < 0 := by omega
  have hp : (0 : Int) ≤ 2 ^ min y.toNat k.bits := Int.le_of_lt (two_pow_pos _)
  simp [binOp, Op.shift, this, Int.fdiv_eq_ediv_of_nonneg _ hp]
theorem eqGuard_int (w : World) (op : BinOp) (t : TypeId) (x y : Operand) (k : IntKind) (a : Int) (v : Value) : (eqGuard op t x y (.int k a) v).run P w = .ok () w := by cases op <;> rfl
theorem binI_ok {o : BinOp} {k : IntKind} {a b : SE} {v : SV} (h : binI o k a b = some v) (ha : inR k (a.den E)) (hb : inR k (b.den E)) (t : TypeId) (w : World) :
    (binOp o t (.int k (a.den E)) (.int k (b.den E))).run P w = .ok (v.den E loc) w ∧ v.wf E 0 := by
  cases o <;> simp only [binI] at h <;> try (cases h; done)
  case add => cases h; exact ⟨by simp [binOp, Op.intArith, SV.den, mkWrap_den, mkAdd_den], by simp only [SV.wf, mkWrap_den]; exact inR_wrap _ _⟩
  case sub => cases h; exact ⟨by simp [binOp, Op.intArith, SV.den, mkWrap_den, mkSub_den], by simp only [SV.wf, mkWrap_den]; exact inR_wrap _ _⟩
  case mul => cases h; exact ⟨by simp [binOp, Op.intArith, SV.den, mkWrap_den, mkMul_den], by simp only [SV.wf, mkWrap_den]; exact inR_wrap _ _⟩
  case quo =>
    obtain ⟨h1, h2, h3⟩ := quoI_ok E loc h ha
    exact ⟨by simp [binOp, Op.intDiv, h1, h2], h3⟩
  case rem =>
    obtain ⟨h1, h2, h3⟩ := remI_ok E loc h ha
    exact ⟨by simp [binOp, Op.intDiv, h1, h2], h3⟩
  case and => cases h; exact ⟨by simp only [binOp_and, intBits_and, Sem.run_pure, SV.den, mkAnd_den E k a b ha hb, bits_eq], by simp only [SV.wf, mkAnd_den E k a b ha hb]; exact inR_bitsI _ _ _ _⟩
  case or => cases h; exact ⟨by simp only [binOp_or, intBits_or, Sem.run_pure, SV.den, mkOr_den E k a b ha hb, bits_eq], by simp only [SV.wf, mkOr_den E k a b ha hb]; exact inR_bitsI _ _ _ _⟩
  case xor => cases h; exact ⟨by simp only [binOp_xor, intBits_xor, Sem.run_pure, SV.den, mkBit_den, bits_eq], by simp only [SV.wf, mkBit_den]; exact inR_bitsI _ _ _ _⟩
  case andNot => cases h; exact ⟨by simp only [binOp_andNot, intBits_andNot, Sem.run_pure, SV.den, mkBit_den, bits_eq], by simp only [SV.wf, mkBit_den]; exact inR_bitsI _ _ _ _⟩
  case eql => cases h; refine ⟨?_, trivial⟩; rw [binOp_eql, Sem.run_pure]; simp only [SV.den, mkEq_den]; by_cases h : a.den E = b.den E <;> simp [h]
  case neq => cases h; refine ⟨?_, trivial⟩; rw [binOp_neq, Sem.run_pure]; simp only [SV.den, mkNot_den, mkEq_den]; by_cases h : a.den E = b.den E <;> simp [h]
  case lss => cases h; refine ⟨?_, trivial⟩; rw [binOp_lss, Sem.run_pure]; simp only [SV.den, mkLt_den]; by_cases h : a.den E < b.den E <;> simp [h]
  case leq => cases h; refine ⟨?_, trivial⟩; rw [binOp_leq, Sem.run_pure]; simp only [SV.den, mkNot_den, mkLt_den]; by_cases h : b.den E < a.den E <;> simp [h] <;> omega
  case gtr => cases h; refine ⟨?_, trivial⟩; rw [binOp_gtr, Sem.run_pure]; simp only [SV.den, mkLt_den]; by_cases h : b.den E < a.den E <;> simp [h]
  case geq => cases h; refine ⟨?_, trivial⟩; rw [binOp_geq, Sem.run_pure]; simp only [SV.den, mkNot_den, mkLt_den]; by_cases h : a.den E < b.den E <;> simp [h] <;> omega

/-! two texts -/
theorem eqB_iff : ∀ (a b : List UInt8), eqB a b = true ↔ a = b := by
  intro a
  induction a with
  | nil => intro b; cases b <;> simp [eqB]
  | cons x a ih =>
    intro b
    cases b with
    | nil => simp [eqB]
    | cons y b =>
      simp only [eqB]
      cases h : Nat.beq x.toNat y.toNat
      · simp only [cond, Bool.false_eq_true, false_iff]
        intro e
        injection e with e1 _
        rw [e1, Nat.beq_refl] at h
        cases h
      · have e1 : x = y := UInt8.toNat_inj.1 (Nat.eq_of_beq_eq_true h)
        simp only [cond, ih]
        simp [e1]
theorem eqB_dec (a b : List UInt8) : eqB a b = decide (a = b) := by
  by_cases h : a = b
  · rw [(eqB_iff a b).2 h]; simp [h]
  · cases h1 : eqB a b
    · simp [h]
    · exact absurd ((eqB_iff a b).1 h1) h
theorem litB_den (b : Bool) : (litB b).den E loc = .bool b := by cases b <;> rfl
theorem toList_str (a : List UInt8) : (ByteArray.mk a.toArray).toList = a := by rw [ByteArray.toList_eq]
theorem eqGuard_str (w : World) (op : BinOp) (t : TypeId) (x y : Operand) (a : ByteArray) (v : Value) : (eqGuard op t x y (.string a) v).run P w = .ok () w := by cases op <;> rfl
theorem binT_ok {o : BinOp} {a b : List UInt8} {v : SV} (h : binT o a b = some v) (t : TypeId) (w : World) :
    (binOp o t (.string ⟨a.toArray⟩) (.string ⟨b.toArray⟩)).run P w = .ok (v.den E loc) w ∧ v.wf E 0 := by
  cases o <;> simp only [binT] at h <;> try (cases h; done)
  case add =>
    cases h1 : Nat.ble (Nat.add a.length b.length) many <;> rw [h1] at h <;> cases h
    have h2 : a.length + b.length ≤ many := Nat.le_of_ble_eq_true h1
    refine ⟨?_, trivial⟩
    have h3 : ¬ (((ByteArray.mk a.toArray).size + (ByteArray.mk b.toArray).size : Nat) : Int) > IntKind.i64.max := by
      have e1 : (ByteArray.mk a.toArray).size = a.length := by simp [ByteArray.size]
      have e2 : (ByteArray.mk b.toArray).size = b.length := by simp [ByteArray.size]
      rw [e1, e2]
      simp [IntKind.max, IntKind.signed, IntKind.bits]
      simp [many] at h2
      omega
    simp only [binOp, Op.stringOp]
    rw [if_neg h3]
    simp [SV.den]
    rfl
  case eql =>
    cases h
    refine ⟨?_, by cases eqB a b <;> trivial⟩
    simp only [binOp, Op.stringOp, litB_den, toList_str, eqB_dec]
    by_cases h : a = b <;> simp [h]
  case neq =>
    cases h
    refine ⟨?_, by cases eqB a b <;> trivial⟩
    simp only [binOp, Op.stringOp, litB_den, toList_str, eqB_dec]
    by_cases h : a = b <;> simp [h]

/-! structs of numbers and bools -/
theorem descKind_int {t : TypeId} {k : IntKind} (h : descKind P t = cellKind (.int k (.lit 0))) : P.underlying t = some (.int k) := by
  unfold descKind at h
  split at h
  · rename_i k' hu
    rw [hu]
    cases k <;> cases k' <;> first | rfl | (simp [cellKind] at h)
  · cases k <;> simp [cellKind] at h
  · cases k <;> simp [cellKind] at h
theorem descKind_bool {t : TypeId} (h : descKind P t = 9) : P.underlying t = some .bool := by
  unfold descKind at h
  split at h
  · rename_i k' hu
    cases k' <;> simp at h
  · assumption
  · simp at h
theorem run_part_plain (w : World) (t : TypeId) (cs : Array Value) (off : Nat) (v : Value) (hu : (∃ k, P.underlying t = some (.int k)) ∨ P.underlying t = some .bool) (hv : cs[off]? = some v) : (part t cs off).run P w = .ok v w := by
  rcases hu with ⟨k, hu⟩ | hu <;> simp [part, isAgg, run_underlying hu, hv]
theorem cellKind_int {k l : IntKind} {a b : SE} (h : cellKind (.int k a) = cellKind (.int l b)) : k = l := by
  cases k <;> cases l <;> first | rfl | (simp [cellKind] at h)
theorem eqFields_ok (d : Nat) (w : World) : ∀ (fs : List Field) (i : Nat) (a b : List SV) (e : SE) (xs ys : Array Value), flatFields P i fs a b = true → eqCells a b = some e →
    (∀ j v, a[j]? = some v → xs[i + j]? = some (v.den E loc)) → (∀ j v, b[j]? = some v → ys[i + j]? = some (v.den E loc)) →
    (Op.eqFields (d + 1) xs ys fs).run P w = .ok (decide (e.den E ≠ 0)) w := by
  intro fs
  induction fs with
  | nil =>
    intro i a b e xs ys h1 h2 _ _
    cases a <;> cases b <;> simp [flatFields] at h1
    simp only [eqCells, Option.some.injEq] at h2
    subst h2
    rfl
  | cons f fs ih =>
    intro i a b e xs ys h1 h2 ha hb
    cases a with
    | nil => simp [flatFields] at h1
    | cons x a =>
      cases b with
      | nil => simp [flatFields] at h1
      | cons y b =>
        simp only [flatFields] at h1
        cases g1 : Nat.beq f.offset i <;> rw [g1] at h1 <;> try (cases h1; done)
        simp only [cond] at h1
        by_cases g2 : f.name = "_"
        · rw [decide_eq_true g2] at h1; cases h1
        rw [decide_eq_false g2] at h1
        simp only at h1
        cases g3 : Nat.beq (descKind P f.type) (cellKind x) <;> rw [g3] at h1 <;> try (cases h1; done)
        cases g4 : Nat.beq (descKind P f.type) (cellKind y) <;> rw [g4] at h1 <;> try (cases h1; done)
        cases g5 : Nat.beq (cellKind x) 0 <;> rw [g5] at h1 <;> try (cases h1; done)
        simp only at h1
        have o1 := Nat.eq_of_beq_eq_true g1
        have k1 := Nat.eq_of_beq_eq_true g3
        have k2 := Nat.eq_of_beq_eq_true g4
        have xa := ha 0 x rfl
        have yb := hb 0 y rfl
        simp only [Nat.add_zero] at xa yb
        have ha' : ∀ j v, a[j]? = some v → xs[i + 1 + j]? = some (v.den E loc) := fun j v hj => by
          have := ha (j + 1) v hj
          rwa [show i + (j + 1) = i + 1 + j by omega] at this
        have hb' : ∀ j v, b[j]? = some v → ys[i + 1 + j]? = some (v.den E loc) := fun j v hj => by
          have := hb (j + 1) v hj
          rwa [show i + (j + 1) = i + 1 + j by omega] at this
        simp only [Op.eqFields, ne_eq, g2, not_false_eq_true, if_true, o1]
        cases x <;> try (simp [cellKind] at g5; done)
        case bool p =>
          have hu := descKind_bool P k1
          cases y <;> try (rw [k1] at k2; rename_i k _; cases k <;> simp [cellKind] at k2; done)
          all_goals try (rw [k1] at k2; simp [cellKind] at k2; done)
          rename_i q
          simp only [eqCells] at h2
          cases hr : eqCells a b with
          | none => rw [hr] at h2; cases h2
          | some e' =>
            rw [hr] at h2
            cases h2
            have hrest := ih (i + 1) a b e' xs ys h1 hr ha' hb'
            simp only [SV.den] at xa yb
            simp only [Sem.run_bind, run_part_plain P w f.type xs i _ (.inr hu) xa, run_part_plain P w f.type ys i _ (.inr hu) yb, Result.andThen_ok, run_equalIn_bool' w d f.type _ _ hu, mkIte_den, mkEqB_den, Sem.run_ite, Sem.run_pure, hrest, SE.den]
            by_cases z1 : p.den E = 0 <;> by_cases z2 : q.den E = 0 <;> simp [z1, z2]
        case int k p =>
          have hu : P.underlying f.type = some (.int k) := descKind_int P (by rw [k1]; cases k <;> rfl)
          cases y <;> try (rw [k1] at k2; cases k <;> simp [cellKind] at k2; done)
          rename_i l q
          have hkl : k = l := cellKind_int (by rw [← k1, k2])
          subst hkl
          simp only [eqCells] at h2
          cases hr : eqCells a b with
          | none => rw [hr] at h2; cases h2
          | some e' =>
            rw [hr] at h2
            cases h2
            have hrest := ih (i + 1) a b e' xs ys h1 hr ha' hb'
            simp only [SV.den] at xa yb
            simp only [Sem.run_bind, run_part_plain P w f.type xs i _ (.inl ⟨k, hu⟩) xa, run_part_plain P w f.type ys i _ (.inl ⟨k, hu⟩) yb, Result.andThen_ok, run_equalIn_int w d f.type k k _ _ hu, mkIte_den, mkEq_den, Sem.run_ite, Sem.run_pure, hrest, SE.den]
            by_cases z1 : p.den E = q.den E <;> simp [z1]
theorem getElem?_denL {l : List SV} {j : Nat} {v : SV} (h : l[j]? = some v) : (denL E loc l).toArray[j]? = some (v.den E loc) := by
  simp [denL_eq, h]
theorem eqAgg_ok {t : TypeId} {a b : List SV} {e : SE} (h : eqAgg P t a b = some e) (w : World) (o : BinOp) (x y : Operand) :
    (eqGuard o t x y (.agg (denL E loc a).toArray) (.agg (denL E loc b).toArray)).run P w = .ok () w ∧
    (Op.equalIn 10000 t (.agg (denL E loc a).toArray) (.agg (denL E loc b).toArray)).run P w = .ok (decide (e.den E ≠ 0)) w := by
  unfold eqAgg at h
  split at h
  · rename_i fs hu
    cases h1 : flatFields P 0 fs.toList a b <;> rw [h1] at h <;> try (cases h; done)
    cases h2 : P.stoodInHeld t <;> rw [h2] at h <;> try (cases h; done)
    cases h3 : P.eqGuardType P.depth t <;> rw [h3] at h <;> try (cases h; done)
    have hf : P.fieldsOf t = fs := by simp [Program.fieldsOf, hu]
    refine ⟨run_eqGuard_agg w o t x y _ _ h3, ?_⟩
    rw [run_equalIn_struct w 9999 t _ _ (by rw [hf]; exact hu) h2, hf]
    exact eqFields_ok E loc P 9998 w fs.toList 0 a b e _ _ h1 h (fun j v hj => by rw [Nat.zero_add]; exact getElem?_denL E loc hj) (fun j v hj => by rw [Nat.zero_add]; exact getElem?_denL E loc hj)
  · cases h
theorem eqGuard_bool' (w : World) (op : BinOp) (t : TypeId) (x y : Operand) (a : Bool) (v : Value) : (eqGuard op t x y (.bool a) v).run P w = .ok () w := by cases op <;> rfl
theorem run_eql_bool' (w : World) (t : TypeId) (a b : Bool) (h : P.underlying t = some .bool) : (binOp .eql t (.bool a) (.bool b)).run P w = .ok (.bool (a == b)) w := by
  simp only [binOp]
  simp [Op.equal, Op.maxDepth, run_equalIn_bool' w 9999 t a b h]
theorem run_neq_bool' (w : World) (t : TypeId) (a b : Bool) (h : P.underlying t = some .bool) : (binOp .neq t (.bool a) (.bool b)).run P w = .ok (.bool (!(a == b))) w := by
  simp only [binOp]
  simp [Op.equal, Op.maxDepth, run_equalIn_bool' w 9999 t a b h]
theorem binS_ok {nx : Nat} {o : BinOp} {t : TypeId} {x y v : SV} (h : binS P o t x y = some v) (hx : x.wf E nx) (hy : y.wf E nx) (w : World) (p q : Operand) :
    (do eqGuard o t p q (x.den E loc) (y.den E loc); binOp o t (x.den E loc) (y.den E loc) : Sem Value).run P w = .ok (v.den E loc) w ∧ v.wf E 0 := by
  cases x <;> simp only [binS] at h <;> try (cases h; done)
  case int k a =>
    cases y <;> (try simp only at h) <;> try (cases h; done)
    rename_i l b
    simp only [SV.den, Sem.run_bind, eqGuard_int, Result.andThen_ok]
    have gen : (cond (decide (k = l)) (binI o k a b) none) = some v → (binOp o t (.int k (a.den E)) (.int l (b.den E))).run P w = .ok (v.den E loc) w ∧ v.wf E 0 := by
      intro h
      by_cases hkl : k = l
      · subst hkl
        simp only [decide_true, cond] at h
        exact binI_ok E loc P h hx hy t w
      · simp [hkl] at h
    cases o <;> try exact gen h
    case shl =>
      obtain ⟨h1, h2, h3⟩ := shlI_ok E loc h hy
      exact ⟨by rw [run_shl P w k l _ _ t h1, h2], h3⟩
    case shr =>
      obtain ⟨h1, h2, h3⟩ := shrI_ok E loc h hx hy
      exact ⟨by rw [run_shr P w k l _ _ t h1, h2], h3⟩
  case str a =>
    cases y <;> (try simp only at h) <;> try (cases h; done)
    rename_i b
    simp only [SV.den, Sem.run_bind, eqGuard_str, Result.andThen_ok]
    exact binT_ok E loc P h t w
  case bool a =>
    cases y <;> (try simp only at h) <;> try (cases h; done)
    rename_i b
    cases hk : Nat.beq (descKind P t) 9 <;> rw [hk] at h <;> try (cases h; done)
    have hu := descKind_bool P (Nat.eq_of_beq_eq_true hk)
    simp only [SV.den, Sem.run_bind, eqGuard_bool', Result.andThen_ok]
    cases o <;> (try simp only [cond] at h) <;> try (cases h; done)
    case eql =>
      cases h
      refine ⟨?_, trivial⟩
      rw [run_eql_bool' P w t _ _ hu]
      simp only [SV.den, mkEqB_den]
      by_cases z1 : a.den E = 0 <;> by_cases z2 : b.den E = 0 <;> simp [z1, z2]
    case neq =>
      cases h
      refine ⟨?_, trivial⟩
      rw [run_neq_bool' P w t _ _ hu]
      simp only [SV.den, mkNot_den, mkEqB_den]
      by_cases z1 : a.den E = 0 <;> by_cases z2 : b.den E = 0 <;> simp [z1, z2]
  case agg a =>
    cases y <;> (try simp only at h) <;> try (cases h; done)
    rename_i b
    cases he : eqAgg P t a b with
    | none => rw [he] at h; cases h
    | some e =>
      rw [he] at h
      obtain ⟨g1, g2⟩ := eqAgg_ok E loc P he w o p q
      simp only [SV.den, Sem.run_bind, g1, Result.andThen_ok]
      cases o <;> (try simp only at h) <;> try (cases h; done)
      case eql =>
        cases h
        refine ⟨?_, trivial⟩
        rw [run_eql_struct, g2]
        rfl
      case neq =>
        cases h
        refine ⟨?_, trivial⟩
        rw [run_neq_struct, g2]
        simp only [Result.andThen_ok, SV.den, mkNot_den]
        by_cases z1 : e.den E = 0 <;> simp [z1]

end Sx
end Go.Proofs.YtfdggebddcoeeaaGreatDoor
end

/-
  Silent operations, second part: memory is read, values are taken apart and put together.
-/
noncomputable section
namespace Go.Proofs.YtfdggebddcoeeaaGreatDoor
namespace Sx
open Go Go.RowKit
variable (E : Env) (loc : Nat → Nat × Nat) (P : Program) (G : Gl)

theorem bindV_ok {o : Option SV} {f : SV → Option SV} {v : SV} (h : bindV o f = some v) : ∃ x, o = some x ∧ f x = some v := by
  cases o with
  | none => cases h
  | some x => exact ⟨x, rfl, h⟩
theorem wfL_get {nx : Nat} {l : List SV} (h : wfL E nx l) {i : Nat} {v : SV} (hv : l[i]? = some v) : v.wf E nx :=
  (wfL_iff E nx l).1 h v (List.mem_of_getElem? hv)
theorem wfL_drop {nx : Nat} {l : List SV} (h : wfL E nx l) (n : Nat) : wfL E nx (l.drop n) :=
  (wfL_iff E nx _).2 fun v hv => (wfL_iff E nx l).1 h v (List.mem_of_mem_drop hv)
theorem wfL_take {nx : Nat} {l : List SV} (h : wfL E nx l) (n : Nat) : wfL E nx (l.take n) :=
  (wfL_iff E nx _).2 fun v hv => (wfL_iff E nx l).1 h v (List.mem_of_mem_take hv)
theorem wfL_append {nx : Nat} {l m : List SV} (h : wfL E nx l) (h' : wfL E nx m) : wfL E nx (l ++ m) :=
  (wfL_iff E nx _).2 fun v hv => (List.mem_append.1 hv).elim ((wfL_iff E nx l).1 h v) ((wfL_iff E nx m).1 h' v)
theorem wf_any {v : SV} (h : v.wf E 0) (nx : Nat) : v.wf E nx := SV.wf_mono E (Nat.zero_le nx) v h

/-! types -/
theorem szOf_run {t : TypeId} (h : szOf P t ≠ 0) (w : World) : (sizeOf t).run P w = .ok (szOf P t) w := by
  unfold szOf at *
  cases hi : P.info? t with
  | none => simp [hi] at h
  | some i => simp [sizeOf, typeInfo, hi]
theorem szOf_run' {t : TypeId} {i : TypeInfo} (h : P.info? t = some i) (w : World) : (sizeOf t).run P w = .ok (szOf P t) w := by
  simp [sizeOf, typeInfo, h, szOf]
theorem szOf_known {t : TypeId} (h : knownT P t = true) (w : World) : (sizeOf t).run P w = .ok (szOf P t) w := by
  cases hi : P.info? t with
  | none => simp [knownT, Program.underlying, hi] at h
  | some i => exact szOf_run' P hi w
theorem isAggT_known {t : TypeId} (h : isAggT P t = true) : knownT P t = true := by
  unfold isAggT at h
  unfold knownT
  split at h <;> simp_all
theorem isAgg_run {t : TypeId} (h : knownT P t = true) (w : World) : (isAgg t).run P w = .ok (isAggT P t) w := by
  unfold knownT at h
  obtain ⟨d, hd⟩ := Option.isSome_iff_exists.1 h
  simp only [isAgg, Sem.run_bind, run_underlying hd, Result.andThen_ok, isAggT, hd]
  cases d <;> rfl
theorem elemOf'_ok {t e : TypeId} (h : elemOf' P t = some e) : P.underlying t = some (.slice e) := by
  unfold elemOf' at h
  split at h
  · rename_i e' hu; cases h; exact hu
  · cases h
theorem arrOf_ok {t e : TypeId} {n : Nat} (h : arrOf P t = some (n, e)) : P.underlying t = some (.array n e) := by
  unfold arrOf at h
  split at h
  · rename_i n' e' hu; cases h; exact hu
  · cases h
theorem strT_ok {t : TypeId} (h : strT P t = true) : P.underlying t = some .string := by
  unfold strT at h
  split at h
  · assumption
  · cases h
theorem fieldAt'_ok {t : TypeId} {i : Nat} {f : Field} (h : fieldAt' P t i = some f) : ∃ fs, P.underlying t = some (.struct fs) ∧ fs[i]? = some f := by
  unfold fieldAt' at h
  split at h
  · rename_i fs hu; exact ⟨fs, hu, h⟩
  · cases h
theorem elem_slice {t e : TypeId} (h : P.underlying t = some (.slice e)) : P.elem t = e := by simp [Program.elem, h]
theorem add_plain' (g j n : Nat) : (⟨g, j, none⟩ : Addr).add n = ⟨g, j + n, none⟩ := by unfold Addr.add; split <;> simp_all

/-! parts -/
theorem partS_ok {nx : Nat} {t : TypeId} {cs : List SV} {off : Nat} {v : SV} (h : partS P t cs off = some v) (hw : wfL E nx cs) (w : World) :
    (part t (denL E loc cs).toArray off).run P w = .ok (v.den E loc) w ∧ v.wf E nx := by
  unfold partS at h
  cases ha : isAggT P t <;> rw [ha] at h
  · cases hk : knownT P t <;> rw [hk] at h
    · cases h
    · simp only [cond] at h
      refine ⟨?_, wfL_get E hw h⟩
      simp only [part, Sem.run_bind, isAgg_run P hk, ha, Result.andThen_ok, Bool.false_eq_true, if_false, getElem?_denL E loc h, Sem.run_pure]
  · have hk := isAggT_known P ha
    cases hb : Nat.ble (Nat.add off (szOf P t)) cs.length <;> rw [hb] at h
    · cases h
    · cases h
      refine ⟨?_, wfL_take E (wfL_drop E hw _) _⟩
      simp only [part, Sem.run_bind, isAgg_run P hk, ha, Result.andThen_ok, if_true, szOf_known P hk, Sem.run_pure, SV.den]
      congr 2
      apply Array.ext'
      simp [denL_eq, List.map_take, List.map_drop]
theorem globs_ok {w : World} (hg : GOk E G w) {g : Nat} : ∀ {n off : Nat} {l : List SV}, globs G g n off = some l →
    l.length = n ∧ (∀ j v, l[j]? = some v → w.cell? ⟨g, off + j, none⟩ = some (v.den E loc) ∧ v.wf E 0) := by
  intro n
  induction n with
  | zero => intro off l h; cases h; exact ⟨rfl, fun j v hj => by simp at hj⟩
  | succ n ih =>
    intro off l h
    simp only [globs] at h
    cases hv : (G.tab g).get off with
    | none => rw [hv] at h; cases h
    | some v =>
      cases hl : globs G g n (off + 1) with
      | none => rw [hv, hl] at h; cases h
      | some l' =>
        rw [hv, hl] at h
        cases h
        obtain ⟨h1, h2⟩ := ih hl
        refine ⟨by simp [h1], fun j u hj => ?_⟩
        cases j with
        | zero =>
          simp at hj
          subst hj
          obtain ⟨a1, a2, _⟩ := hg.2 g off v hv
          exact ⟨a1 loc, a2⟩
        | succ j =>
          have := h2 j u hj
          rwa [show off + 1 + j = off + (j + 1) by omega] at this
theorem brel_cell {w : World} {b : Nat} {k : SBlk} (h : BRel E loc P w b k) {j : Nat} {v : SV} (hj : k.cells[j]? = some v) : w.cell? ⟨(loc b).1, j, none⟩ = some (v.den E loc) := by
  obtain ⟨cur, fz, rest, h1, _, h3, _⟩ := h
  simp only [World.cell?, h1]
  have : cur.toList[j]? = some (v.den E loc) := by
    rw [h3, List.getElem?_append_left (by rw [denL_length]; exact (List.getElem?_eq_some_iff.1 hj).1), denL_eq, List.getElem?_map, hj]
    rfl
  simpa using this
theorem loadN_ok {nx : Nat} {hp : Tr SBlk} {w : World} (hr : HRel E loc P nx hp w) (hg : GOk E G w) {x : SV} {n : Nat} {l : List SV} (h : loadN G hp x n = some l) :
    ∃ ad, x.den E loc = .pointer (some ad) ∧ l.length = n ∧ wfL E nx l ∧ ∀ j v, l[j]? = some v → w.cell? (ad.add j) = some (v.den E loc) := by
  cases x <;> simp only [loadN] at h <;> try (cases h; done)
  case ptr b off =>
    cases hb : hp.get b with
    | none => rw [hb] at h; cases h
    | some k =>
      rw [hb] at h
      simp only at h
      cases hl : Nat.ble (Nat.add off n) k.cells.length <;> rw [hl] at h
      · cases h
      · cases h
        have hle : off + n ≤ k.cells.length := Nat.le_of_ble_eq_true hl
        refine ⟨⟨(loc b).1, off, none⟩, rfl, by simp; omega, wfL_take E (wfL_drop E (hr.wf b k hb) _) _, fun j v hj => ?_⟩
        rw [add_plain']
        apply brel_cell E loc P (hr.rel b k hb)
        rw [List.getElem?_take] at hj
        split at hj
        · rwa [List.getElem?_drop] at hj
        · cases hj
  case gptr g off =>
    obtain ⟨h1, h2⟩ := globs_ok E loc G hg h
    refine ⟨⟨g, off, none⟩, rfl, h1, (wfL_iff E nx l).2 fun v hv => ?_, fun j v hj => ?_⟩
    · obtain ⟨j, hj⟩ := List.getElem?_of_mem hv
      exact wf_any E (h2 j v hj).2 nx
    · rw [add_plain']; exact (h2 j v hj).1
theorem loadS_ok {nx : Nat} {hp : Tr SBlk} {w : World} (hr : HRel E loc P nx hp w) (hg : GOk E G w) {t : TypeId} {x v : SV} (h : loadS P G hp t x = some v) :
    (Instr.loadAt t (x.den E loc)).run P w = .ok (v.den E loc) w ∧ v.wf E nx := by
  unfold loadS at h
  cases ha : isAggT P t <;> rw [ha] at h
  · cases hk : knownT P t <;> rw [hk] at h
    · cases h
    · simp only [cond] at h
      cases hl : loadN G hp x 1 with
      | none => rw [hl] at h; cases h
      | some l =>
        rw [hl] at h
        obtain ⟨ad, h1, h2, h3, h4⟩ := loadN_ok E loc P G hr hg hl
        match l, h with
        | [u], h =>
          cases h
          refine ⟨?_, h3.1⟩
          have hc := h4 0 v rfl
          have e0 : ad.add 0 = ad := rfl
          rw [e0] at hc
          simp only [Instr.loadAt, h1, Instr.sureAddr, Sem.run_bind, Sem.run_pure, Result.andThen_ok, loadVar, isAgg_run P hk, ha, Bool.false_eq_true, if_false, run_load, hc]
  · have hk := isAggT_known P ha
    simp only [cond] at h
    cases hl : loadN G hp x (szOf P t) with
    | none => rw [hl] at h; cases h
    | some l =>
      rw [hl] at h
      cases h
      obtain ⟨ad, h1, h2, h3, h4⟩ := loadN_ok E loc P G hr hg hl
      refine ⟨?_, h3⟩
      have hrun := run_loadCells_list (P := P) w ad (denL E loc l) (fun j v hj => by
        rw [denL_eq, List.getElem?_map] at hj
        cases hu : l[j]? with
        | none => rw [hu] at hj; cases hj
        | some u => rw [hu] at hj; cases hj; exact h4 j u hu)
      rw [denL_length, h2] at hrun
      simp only [Instr.loadAt, h1, Instr.sureAddr, Sem.run_bind, Sem.run_pure, Result.andThen_ok, loadVar, isAgg_run P hk, ha, if_true, szOf_known P hk, hrun, SV.den]

/-! addresses -/
theorem offV_ok {x v : SV} {n : Nat} (h : offV x n = some v) {nx : Nat} (hw : x.wf E nx) : ∃ ad, x.den E loc = .pointer (some ad) ∧ v.den E loc = .pointer (some (ad.add n)) ∧ v.wf E nx := by
  cases x <;> simp only [offV] at h <;> try (cases h; done)
  · cases h; exact ⟨_, rfl, by rw [add_plain']; rfl, hw⟩
  · cases h; exact ⟨_, rfl, by rw [add_plain']; rfl, trivial⟩
theorem beq0_false {n : Nat} (h : Nat.beq n 0 = false) : n ≠ 0 := fun e => by rw [e] at h; cases h
theorem fieldAddr_ok {t : TypeId} {i : Nat} {f : Field} (hf : fieldAt' P t i = some f) (hs : Nat.beq (szOf P f.type) 0 = false) {x v : SV} (h : offV x f.offset = some v) {nx : Nat} (hw : x.wf E nx) (w : World) :
    (Instr.fieldAt t (x.den E loc) i).run P w = .ok (v.den E loc) w ∧ v.wf E nx := by
  obtain ⟨fs, hu, hi⟩ := fieldAt'_ok P hf
  obtain ⟨ad, h1, h2, h3⟩ := offV_ok E loc h hw
  refine ⟨?_, h3⟩
  simp only [Instr.fieldAt, Sem.run_bind, run_underlying hu, Result.andThen_ok, hi, h1, Instr.sureAddr, Sem.run_pure, fieldPlace, szOf_run P (beq0_false hs), if_neg (beq0_false hs), h2]
theorem blt_lt {a b : Nat} (h : Nat.blt a b = true) : a < b := by simpa [Nat.blt_eq] using h
theorem idxAddr_ok {t : TypeId} {x v : SV} {i : Nat} (h : idxAddr P t x i = some v) {nx : Nat} (hw : x.wf E nx) (k : IntKind) (w : World) :
    (Instr.indexAt t (x.den E loc) (.int k (i : Int))).run P w = .ok (v.den E loc) w ∧ v.wf E nx := by
  unfold idxAddr at h
  cases he : elemOf' P t with
  | some e =>
    rw [he] at h
    have hu := elemOf'_ok P he
    cases x <;> (try simp only at h) <;> try (cases h; done)
    rename_i b off len c
    cases hb : Nat.blt i len <;> rw [hb] at h <;> try (cases h; done)
    cases hk : knownT P e <;> rw [hk] at h <;> try (cases h; done)
    cases h
    have hlt := blt_lt hb
    refine ⟨?_, hw⟩
    have hin : (0 : Int) ≤ (i : Int) ∧ (i : Int) < (len : Int) := by omega
    simp only [SV.den]
    rw [run_indexAt_slice w t _ _ _ k _ (by rw [elem_slice P hu]; exact hu), if_pos hin, elem_slice P hu, szOf_known P hk, Result.andThen_ok, add_plain', Int.toNat_natCast]
    rfl
  | none =>
    rw [he] at h
    simp only at h
    cases hr : arrOf P t with
    | none => rw [hr] at h; cases h
    | some r =>
      obtain ⟨n, e⟩ := r
      rw [hr] at h
      simp only at h
      have hu := arrOf_ok P hr
      cases hb : Nat.blt i n <;> rw [hb] at h <;> try (cases h; done)
      cases hk : knownT P e <;> rw [hk] at h <;> try (cases h; done)
      obtain ⟨ad, h1, h2, h3⟩ := offV_ok E loc h hw
      refine ⟨?_, h3⟩
      have hlt := blt_lt hb
      have hin : (0 : Int) ≤ (i : Int) ∧ (i : Int) < (n : Int) := by omega
      have e1 : P.elem t = e := by simp [Program.elem, hu]
      have e2 : P.arrayLen t = n := by simp [Program.arrayLen, hu]
      rw [h1, run_indexAt_array w t ad k _ (by rw [e1, e2]; exact hu), e2, if_pos hin, e1, szOf_known P hk, Result.andThen_ok, h2, Int.toNat_natCast]
      rfl
theorem idxV_ok {t : TypeId} {x v : SV} {i : Nat} (h : idxV P t x i = some v) {nx : Nat} (hw : x.wf E nx) (k : IntKind) (w : World) :
    (Instr.index t (x.den E loc) (.int k (i : Int))).run P w = .ok (v.den E loc) w ∧ v.wf E nx := by
  cases x <;> simp only [idxV] at h <;> try (cases h; done)
  case str s =>
    cases hs : strT P t <;> rw [hs] at h <;> try (cases h; done)
    have hu := strT_ok P hs
    simp only [cond] at h
    cases hc : s[i]? with
    | none => rw [hc] at h; cases h
    | some c =>
      rw [hc] at h
      cases h
      have hlt : i < s.length := (List.getElem?_eq_some_iff.1 hc).1
      have hcc : s[i] = c := (List.getElem?_eq_some_iff.1 hc).2
      refine ⟨?_, ?_⟩
      · have h0 : (0 : Int) ≤ (i : Int) := by omega
        simp only [SV.den, Instr.index, asIntOf, Sem.run_bind, Sem.run_pure, Result.andThen_ok, run_underlying hu, if_pos h0, Int.toNat_natCast]
        have e1 : (ByteArray.mk s.toArray)[i]? = some c := by
          have hsz : i < (ByteArray.mk s.toArray).size := by simpa [ByteArray.size] using hlt
          rw [getElem?_pos _ i hsz]
          congr 1
        rw [e1]
        rfl
      · show inR .u8 _
        have := c.toNat_lt
        simp [inR, IntKind.min, IntKind.max, IntKind.signed, IntKind.bits, SE.den]
        omega
  case agg cs =>
    cases hr : arrOf P t with
    | none => rw [hr] at h; cases h
    | some r =>
      obtain ⟨n, e⟩ := r
      rw [hr] at h
      simp only at h
      have hu := arrOf_ok P hr
      cases hb : Nat.blt i n <;> rw [hb] at h <;> try (cases h; done)
      cases hk : knownT P e <;> rw [hk] at h <;> try (cases h; done)
      simp only [cond] at h
      obtain ⟨h1, h2⟩ := partS_ok E loc P h hw w
      refine ⟨?_, h2⟩
      have hlt := blt_lt hb
      have hin : (0 : Int) ≤ (i : Int) ∧ (i : Int) < (n : Int) := by omega
      simp only [SV.den, Instr.index, asIntOf, Sem.run_bind, Sem.run_pure, Result.andThen_ok, run_underlying hu, if_pos hin, szOf_known P hk, Int.toNat_natCast]
      exact h1

/-! a choice, a sign, a test on nil -/
theorem pickV_ok {nx : Nat} {tm : Tr SV} {a : Act} (ht : TRel E loc nx tm a.tmps) {c x y : Operand} {v : SV} (h : pickV tm c x y = some v) :
    ∃ t : Bool, a.eval c = .bool t ∧ (if t = true then a.eval x else a.eval y) = v.den E loc ∧ v.wf E nx := by
  unfold pickV at h
  cases hc : opv tm c with
  | none => rw [hc] at h; cases h
  | some cv =>
    rw [hc] at h
    obtain ⟨c1, c2⟩ := opv_ok E loc ht hc
    cases cv <;> (try simp only at h) <;> try (cases h; done)
    rename_i e
    have gen : ∀ e : SE, a.eval c = .bool (decide (e.den E ≠ 0)) → (match opv tm x with
        | some x => match opv tm y with
          | some y => match x with
            | .bool x => match y with
              | .bool y => some (SV.bool (mkIte e x y))
              | _ => none
            | .int k x => match y with
              | .int l y => cond (decide (k = l)) (some (.int k (mkIte e x y))) none
              | _ => none
            | _ => none
          | none => none
        | none => none) = some v → ∃ t : Bool, a.eval c = .bool t ∧ (if t = true then a.eval x else a.eval y) = v.den E loc ∧ v.wf E nx := by
      intro e he h
      refine ⟨_, he, ?_⟩
      cases hx : opv tm x with
      | none => rw [hx] at h; cases h
      | some xv =>
        cases hy : opv tm y with
        | none => rw [hx, hy] at h; cases h
        | some yv =>
          rw [hx, hy] at h
          obtain ⟨x1, x2⟩ := opv_ok E loc ht hx
          obtain ⟨y1, y2⟩ := opv_ok E loc ht hy
          rw [x1, y1]
          cases xv <;> (try simp only at h) <;> try (cases h; done)
          case bool p =>
            cases yv <;> (try simp only at h) <;> try (cases h; done)
            rename_i q
            cases h
            refine ⟨?_, trivial⟩
            simp only [SV.den, mkIte_den]
            by_cases z : e.den E = 0 <;> simp [z]
          case int k p =>
            cases yv <;> (try simp only at h) <;> try (cases h; done)
            rename_i l q
            by_cases hkl : k = l
            · subst hkl
              simp only [decide_true, cond] at h
              cases h
              refine ⟨?_, ?_⟩
              · simp only [SV.den, mkIte_den]
                by_cases z : e.den E = 0 <;> simp [z]
              · simp only [SV.wf, mkIte_den]
                split
                · exact y2
                · exact x2
            · simp [hkl] at h
    cases e <;> try exact gen _ c1 h
    rename_i n
    simp only at h
    simp only [SV.den, SE.den] at c1
    refine ⟨_, c1, ?_⟩
    cases hn : int0 n <;> rw [hn] at h <;> simp only [cond] at h
    · have : n ≠ 0 := fun e => by rw [(int0_iff n).2 e] at hn; cases hn
      obtain ⟨x1, x2⟩ := opv_ok E loc ht h
      simp [this, x1, x2]
    · have : n = 0 := (int0_iff n).1 hn
      obtain ⟨x1, x2⟩ := opv_ok E loc ht h
      simp [this, x1, x2]
theorem unV_ok {u : UnOp} {x v : SV} (h : unV u x = some v) (w : World) : (Op.unary u (x.den E loc)).run P w = .ok (v.den E loc) w ∧ v.wf E 0 := by
  cases u <;> simp only [unV] at h <;> try (cases h; done)
  case neg =>
    cases x <;> (try simp only at h) <;> try (cases h; done)
    cases h
    refine ⟨?_, by simp only [SV.wf, mkWrap_den]; exact inR_wrap _ _⟩
    simp [SV.den, Op.unary, Op.intArith, mkWrap_den, mkSub_den, SE.den]
  case xor =>
    cases x <;> (try simp only at h) <;> try (cases h; done)
    rename_i k e
    cases h
    refine ⟨?_, by simp only [SV.wf, mkBit_den]; exact inR_bitsI _ _ _ _⟩
    have e1 : (cond k.signed (-1) k.max : Int) = if k.signed = true then -1 else k.max := by cases k.signed <;> rfl
    simp only [SV.den, Op.unary, intBits_xor, Sem.run_pure, mkBit_den, SE.den, bits_eq, e1]
  case not =>
    cases x <;> (try simp only at h) <;> try (cases h; done)
    rename_i e
    cases h
    refine ⟨?_, trivial⟩
    simp only [SV.den, Op.unary, Sem.run_pure, mkNot_den]
    by_cases z : e.den E = 0 <;> simp [z]

end Sx
end Go.Proofs.YtfdggebddcoeeaaGreatDoor
end

/-
  Silent operations, third part: parts put together, texts and slices cut, kinds turned; and all of them in one statement.
-/
noncomputable section
namespace Go.Proofs.YtfdggebddcoeeaaGreatDoor
namespace Sx
open Go Go.RowKit
variable (E : Env) (loc : Nat → Nat × Nat) (P : Program) (G : Gl)

/-! parts put in -/
theorem setL_eq : ∀ (l : List SV) (n : Nat) (vs : List SV), n + vs.length ≤ l.length → setL l n vs = l.take n ++ vs ++ l.drop (n + vs.length)
  | l, 0, vs, _ => by cases l <;> simp [setL]
  | [], n + 1, vs, h => by simp at h
  | x :: l, n + 1, vs, h => by
    have := setL_eq l n vs (by simp at h; omega)
    simp only [setL, this, List.take_succ_cons, List.cons_append, show n + 1 + vs.length = (n + vs.length) + 1 by omega, List.drop_succ_cons]
theorem setL_length {l : List SV} {n : Nat} {vs : List SV} (h : n + vs.length ≤ l.length) : (setL l n vs).length = l.length := by
  rw [setL_eq l n vs h]; simp; omega
theorem setL_wf {nx : Nat} {l : List SV} {n : Nat} {vs : List SV} (h : n + vs.length ≤ l.length) (hl : wfL E nx l) (hv : wfL E nx vs) : wfL E nx (setL l n vs) := by
  rw [setL_eq l n vs h]
  exact wfL_append E (wfL_append E (wfL_take E hl n) hv) (wfL_drop E hl _)
theorem setL_one {l : List SV} {n : Nat} {vs : List SV} (h : n + vs.length ≤ l.length) (hl : allOne l = true) (hv : allOne vs = true) : allOne (setL l n vs) = true := by
  rw [setL_eq l n vs h]
  simp only [allOne_append]
  refine ⟨⟨?_, hv⟩, ?_⟩
  · exact (allOne_iff _).2 fun v hv => (allOne_iff l).1 hl v (List.mem_of_mem_take hv)
  · exact (allOne_iff _).2 fun v hv => (allOne_iff l).1 hl v (List.mem_of_mem_drop hv)
theorem setL_den {l : List SV} {n : Nat} {vs : List SV} (h : n + vs.length ≤ l.length) : denL E loc (setL l n vs) = (denL E loc l).take n ++ denL E loc vs ++ (denL E loc l).drop (n + vs.length) := by
  rw [setL_eq l n vs h]
  simp [denL_eq, List.map_take, List.map_drop]
def denP (vs : List (Nat × SV)) : List (Nat × Value) := vs.map fun x => (x.1, x.2.den E loc)
def wfP (nx : Nat) (vs : List (Nat × SV)) : Prop := ∀ x ∈ vs, x.2.wf E nx
theorem fill_step (cells : List SV) (off : Nat) (v : SV) (h : off + (cellsOf v).length ≤ cells.length) :
    ((v.den E loc).cells.zipIdx.foldl (fun cs (x : Value × Nat) => cs.setIfInBounds (off + x.2) x.1) (denL E loc cells).toArray) = (denL E loc (setL cells off (cellsOf v))).toArray := by
  rw [cellsOf_den, ← Array.foldl_toList, Array.toList_zipIdx]
  obtain ⟨g1, g2⟩ := Go.Great.foldl_set off (denL E loc (cellsOf v)) 0 (denL E loc cells).toArray
  apply Array.ext_getElem?
  intro k
  have : ((denL E loc (cellsOf v)).toArray.toList) = denL E loc (cellsOf v) := rfl
  rw [this, g2 k, setL_den E loc h]
  simp only [Nat.add_zero, denL_length, List.size_toArray, List.getElem?_toArray]
  by_cases hk : off ≤ k ∧ k < off + (cellsOf v).length ∧ k < cells.length
  · rw [if_pos hk, List.append_assoc, List.getElem?_append_right (by simp [denL_length]; omega), List.getElem?_append_left (by simp [denL_length]; omega)]
    congr 1
    simp [denL_length]; omega
  · rw [if_neg hk]
    by_cases h1 : k < off
    · rw [List.append_assoc, List.getElem?_append_left (by simp [denL_length]; omega), List.getElem?_take, if_pos h1]
    · rw [List.getElem?_append_right (by simp [denL_length]; omega), List.getElem?_drop]
      simp only [List.length_append, List.length_take, denL_length]
      by_cases h2 : k < off + (cellsOf v).length
      · omega
      · congr 1; omega
theorem fillS_ok {nx : Nat} {pl pl' : Nat → Option (Nat × Nat)} (hpl : ∀ i x, pl i = some x → pl' i = some x) : ∀ {vs : List (Nat × SV)} {cells c : List SV}, fillS pl cells vs = some c → wfL E nx cells → wfP E nx vs →
    Instr.fill pl' (denL E loc cells).toArray (denP E loc vs) = some (denL E loc c).toArray ∧ wfL E nx c := by
  intro vs
  induction vs with
  | nil => intro cells c h hc _; cases h; exact ⟨rfl, hc⟩
  | cons x vs ih =>
    intro cells c h hc hv
    obtain ⟨i, v⟩ := x
    simp only [fillS] at h
    cases hp : pl i with
    | none => rw [hp] at h; cases h
    | some p =>
      obtain ⟨off, size⟩ := p
      rw [hp] at h
      simp only at h
      cases h1 : Nat.beq (cellsOf v).length size <;> rw [h1] at h <;> try (cases h; done)
      cases h2 : Nat.ble (Nat.add off size) cells.length <;> rw [h2] at h <;> try (cases h; done)
      simp only [cond] at h
      have e1 := Nat.eq_of_beq_eq_true h1
      have e2 : off + size ≤ cells.length := Nat.le_of_ble_eq_true h2
      subst e1
      obtain ⟨a1, a2⟩ := ih h (setL_wf E e2 hc (cellsOf_wf E (hv _ List.mem_cons_self))) (fun x hx => hv x (List.mem_cons_of_mem _ hx))
      refine ⟨?_, a2⟩
      simp only [denP, List.map_cons, Instr.fill, hpl _ _ hp]
      have sz : (v.den E loc).cells.size = (cellsOf v).length := by rw [cellsOf_den]; simp [denL_length]
      rw [sz]
      rw [if_neg (by simp [denL_length]; omega)]
      rw [fill_step E loc cells off v e2]
      exact a1
theorem seqParts_ok {n : Nat} {nx : Nat} : ∀ {vs : List (Nat × SV)} {i : Nat} {c : List SV}, seqParts n i vs = some c → wfP E nx vs →
    ∃ us : List SV, vs = (us.zipIdx i).map (fun x => (x.2, x.1)) ∧ (∀ u ∈ us, (cellsOf u).length = n) ∧ c = us.flatMap cellsOf ∧ wfL E nx c := by
  intro vs
  induction vs with
  | nil => intro i c h _; cases h; exact ⟨[], rfl, by simp, rfl, trivial⟩
  | cons x vs ih =>
    intro i c h hv
    obtain ⟨j, v⟩ := x
    simp only [seqParts] at h
    cases h1 : Nat.beq i j <;> rw [h1] at h <;> try (cases h; done)
    cases h2 : Nat.beq (cellsOf v).length n <;> rw [h2] at h <;> try (cases h; done)
    simp only [cond] at h
    cases h3 : seqParts n (i + 1) vs with
    | none => rw [h3] at h; cases h
    | some r =>
      rw [h3] at h
      cases h
      obtain ⟨us, e1, e2, e3, e4⟩ := ih h3 (fun x hx => hv x (List.mem_cons_of_mem _ hx))
      refine ⟨v :: us, ?_, ?_, by simp [e3], wfL_append E (cellsOf_wf E (hv _ List.mem_cons_self)) e4⟩
      · rw [Nat.eq_of_beq_eq_true h1, e1]
        simp [List.zipIdx_cons, Nat.eq_of_beq_eq_true h1]
      · intro u hu
        rcases List.mem_cons.1 hu with rfl | hu
        · exact Nat.eq_of_beq_eq_true h2
        · exact e2 u hu
theorem flatMap_len {n : Nat} {us : List SV} (h : ∀ u ∈ us, (cellsOf u).length = n) : (us.flatMap cellsOf).length = us.length * n := by
  induction us with
  | nil => simp
  | cons u us ih =>
    have := ih fun x hx => h x (List.mem_cons_of_mem _ hx)
    simp [h u List.mem_cons_self, this, Nat.add_mul]; omega
theorem flatMap_den (us : List SV) : (us.map (SV.den E loc)).flatMap (fun v => v.cells.toList) = denL E loc (us.flatMap cellsOf) := by
  induction us with
  | nil => rfl
  | cons u us ih => simp [ih, cellsOf_den, denL_append]
theorem seqP_ok {n : Nat} {nx : Nat} {vs : List (Nat × SV)} {c : List SV} (h : seqP n vs = some c) (hv : wfP E nx vs) (cells : Array Value) (hs : cells.size = c.length) :
    Instr.fill (fun i => some (i * n, n)) cells (denP E loc vs) = some (denL E loc c).toArray ∧ wfL E nx c := by
  unfold seqP at h
  cases hn : Nat.beq n 0 <;> rw [hn] at h <;> try (cases h; done)
  simp only [cond] at h
  have hn' := beq0_false hn
  obtain ⟨us, e1, e2, e3, e4⟩ := seqParts_ok E h hv
  refine ⟨?_, e4⟩
  have hp : denP E loc vs = (((us.map (SV.den E loc)).zipIdx 0).map fun x => (x.2, x.1)) := by
    rw [e1]
    simp only [denP, List.map_map]
    rw [List.zipIdx_map, List.map_map]
    rfl
  rw [hp, Go.Great.fill_whole (by omega) _ cells, flatMap_den, ← e3]
  · intro v hv
    obtain ⟨u, hu, rfl⟩ := List.mem_map.1 hv
    rw [cellsOf_den]; simp [denL_length, e2 u hu]
  · rw [hs, e3, flatMap_len e2]; simp
theorem parts_ok {nx : Nat} {tm : Tr SV} {a : Act} (ht : TRel E loc nx tm a.tmps) : ∀ {l : List (Nat × Operand)} {vs : List (Nat × SV)}, parts tm l = some vs →
    l.map (fun x => (x.1, a.eval x.2)) = denP E loc vs ∧ wfP E nx vs := by
  intro l
  induction l with
  | nil => intro vs h; cases h; exact ⟨rfl, fun x hx => by cases hx⟩
  | cons x l ih =>
    intro vs h
    obtain ⟨i, x⟩ := x
    simp only [parts] at h
    cases hv : opv tm x with
    | none => rw [hv] at h; cases h
    | some v =>
      cases hus : parts tm l with
      | none => rw [hv, hus] at h; cases h
      | some us =>
        rw [hv, hus] at h
        cases h
        obtain ⟨h1, h2⟩ := opv_ok E loc ht hv
        obtain ⟨h3, h4⟩ := ih hus
        refine ⟨by simp [denP, h1] ; simpa [denP] using h3, fun y hy => ?_⟩
        rcases List.mem_cons.1 hy with rfl | hy
        · exact h2
        · exact h4 y hy
theorem ofVals_ok (nx : Nat) : ∀ {l : List Value} {vs : List SV}, ofVals l = some vs → denL E loc vs = l ∧ wfL E nx vs := by
  intro l
  induction l with
  | nil => intro vs h; cases h; exact ⟨rfl, trivial⟩
  | cons x l ih =>
    intro vs h
    simp only [ofVals] at h
    cases hv : ofVal x with
    | none => rw [hv] at h; cases h
    | some v =>
      cases hus : ofVals l with
      | none => rw [hv, hus] at h; cases h
      | some us =>
        rw [hv, hus] at h
        cases h
        obtain ⟨h1, h2⟩ := ofVal_ok E loc hv nx
        obtain ⟨h3, h4⟩ := ih hus
        exact ⟨by simp [denL, h1, h3], h2, h4⟩
theorem zeroOf_ok {t : TypeId} {z : SV} (h : zeroOf P t = some z) (nx : Nat) : ∃ i, P.info? t = some i ∧ i.zero = some (z.den E loc) ∧ z.wf E nx := by
  unfold zeroOf at h
  split at h
  · rename_i i hi
    refine ⟨i, hi, ?_⟩
    split at h
    · rename_i z' hz
      rw [hz]
      split at h
      · rename_i cs
        split at h
        · rename_i l hl
          cases h
          obtain ⟨h1, h2⟩ := ofVals_ok E loc nx hl
          exact ⟨by simp [SV.den, h1], h2⟩
        · cases h
      · obtain ⟨h1, h2⟩ := ofVal_ok E loc h nx
        exact ⟨by rw [h1], h2⟩
    · cases h
  · cases h
theorem places_get : ∀ (l : List Field) (pls : List (Nat × Nat)), l.mapM (fun f : Field => (P.info? f.type).map fun i => (f.offset, i.size)) = some pls →
    ∀ (i : Nat) (x : Nat × Nat), (match (l[i]? : Option Field) with | some f => some (f.offset, szOf P f.type) | none => none) = some x → pls[i]? = some x
  | [], pls, _, i, x, h2 => by simp at h2
  | f :: l, pls, h, i, x, h2 => by
    simp only [List.mapM_cons, Option.bind_eq_bind, Option.pure_def] at h
    cases hi : P.info? f.type with
    | none => simp [hi] at h
    | some j =>
      cases hr : l.mapM (fun f : Field => (P.info? f.type).map fun i => (f.offset, i.size)) with
      | none => simp [hi, hr] at h
      | some rest =>
        simp [hi, hr] at h
        subst h
        cases i with
        | zero => simp at h2 ⊢; rw [← h2]; simp [szOf, hi]
        | succ i => simpa using places_get l rest hr i x (by simpa using h2)

theorem mapM_known : ∀ (l : List Field), allKnown P l = true → ∃ pls, l.mapM (fun f : Field => (P.info? f.type).map fun i => (f.offset, i.size)) = some pls
  | [], _ => ⟨[], rfl⟩
  | f :: l, h => by
    simp only [allKnown] at h
    cases hi : P.info? f.type with
    | none => rw [hi] at h; cases h
    | some i =>
      rw [hi] at h
      obtain ⟨pls, hp⟩ := mapM_known l h
      exact ⟨(f.offset, i.size) :: pls, by simp [List.mapM_cons, hi, hp]⟩
theorem buildV_ok {nx : Nat} {t : TypeId} {vs : List (Nat × SV)} {v : SV} (h : buildV P t vs = some v) (hv : wfP E nx vs) (w : World) :
    (Instr.build t (denP E loc vs).toArray).run P w = .ok (v.den E loc) w ∧ v.wf E nx := by
  unfold buildV at h
  split at h
  · rename_i z hz
    obtain ⟨it, h1, h2, h3⟩ := zeroOf_ok E loc P hz nx
    split at h
    · rename_i fs hu
      cases hk : allKnown P fs.toList <;> rw [hk] at h <;> try (cases h; done)
      simp only [cond] at h
      split at h
      · rename_i c hc
        cases h
        obtain ⟨pls, hp⟩ := mapM_known P fs.toList hk
        have hpl : ∀ (i : Nat) (x : Nat × Nat), (match (fs[i]? : Option Field) with | some f => some (f.offset, szOf P f.type) | none => none) = some x → pls.toArray[i]? = some x := fun i x hx => by
          have := places_get P fs.toList pls hp i x (by simpa using hx)
          simpa using this
        obtain ⟨a1, a2⟩ := fillS_ok E loc hpl hc (cellsOf_wf E h3) hv
        refine ⟨?_, a2⟩
        rw [run_build w t _ (denL E loc c).toArray]
        · rfl
        · simp only [Program.built, h1, hu, h2, hp, cellsOf_den]
          exact a1
      · cases h
    · rename_i len e hu
      split at h
      · rename_i c hc
        cases b1 : Nat.beq c.length (Nat.mul len (szOf P e)) <;> rw [b1] at h <;> try (cases h; done)
        cases b2 : Nat.beq (cellsOf z).length (Nat.mul len (szOf P e)) <;> rw [b2] at h <;> try (cases h; done)
        cases h
        have e1 := Nat.eq_of_beq_eq_true b1
        have e2 := Nat.eq_of_beq_eq_true b2
        have hn : szOf P e ≠ 0 := by
          intro e0
          simp [seqP, e0] at hc
        obtain ⟨a1, a2⟩ := seqP_ok E loc hc hv (z.den E loc).cells (by rw [cellsOf_den]; simp [denL_length]; omega)
        refine ⟨?_, a2⟩
        rw [run_build w t _ (denL E loc c).toArray]
        · rfl
        · cases hie : P.info? e with
          | none => simp [szOf, hie] at hn
          | some ie =>
            have : szOf P e = ie.size := by simp [szOf, hie]
            rw [this] at a1
            simp only [Program.built, h1, hu, h2, hie]
            exact a1
      · cases hk : (P.info? e).isSome <;> rw [hk] at h <;> try (cases h; done)
        simp only [cond] at h
        split at h
        · rename_i c hc
          cases h
          obtain ⟨a1, a2⟩ := fillS_ok E loc (pl' := fun i => some (Nat.mul i (szOf P e), szOf P e)) (fun i x hx => hx) hc (cellsOf_wf E h3) hv
          refine ⟨?_, a2⟩
          cases hie : P.info? e with
          | none => rw [hie] at hk; cases hk
          | some ie =>
            rw [run_build w t _ (denL E loc c).toArray]
            · rfl
            · have : szOf P e = ie.size := by simp [szOf, hie]
              rw [this] at a1
              simp only [Program.built, h1, hu, h2, hie, cellsOf_den]
              exact a1
        · cases h
    · cases h
  · cases h

/-! texts and slices cut -/
theorem bound_ok {nx : Nat} {tm : Tr SV} {a : Act} (ht : TRel E loc nx tm a.tmps) {x : Option Operand} {d n : Nat} (h : bound tm x d = some n) :
    (x = none ∧ n = d) ∨ ∃ y k, x = some y ∧ a.eval y = .int k (n : Int) := by
  unfold bound at h
  cases x with
  | none => cases h; exact .inl ⟨rfl, rfl⟩
  | some y =>
    obtain ⟨k, h1, _⟩ := opN_ok E loc ht h
    exact .inr ⟨y, k, rfl, h1⟩
theorem sliceBounds_ok (b : Bool) (len cap lo hi : Nat) (x y : Option Operand) {nx : Nat} {tm : Tr SV} {a : Act} (ht : TRel E loc nx tm a.tmps) (hx : bound tm x 0 = some lo) (hy : bound tm y len = some hi) (h1 : lo ≤ hi) (h2 : hi ≤ cap) (w : World) :
    (Instr.sliceBounds b len cap (x.map a.eval) (y.map a.eval) none).run P w = .ok (lo, hi, cap) w := by
  have hb : ∀ (k : IntKind) (n m : Nat) (code : BoundsCode), n ≤ m → (Instr.sliceBound (.int k (n : Int)) m code).run P w = .ok n w := fun k n m code h => by
    rw [run_sliceBound w k _ m code (by omega) (by omega), Int.toNat_natCast]
  rcases bound_ok E loc ht hy with ⟨e1, e2⟩ | ⟨y', ky, e1, e2⟩ <;> rcases bound_ok E loc ht hx with ⟨f1, f2⟩ | ⟨x', kx, f1, f2⟩
  · subst e1 e2 f1 f2
    simp [Instr.sliceBounds]
  · subst e1 e2 f1
    simp [Instr.sliceBounds, f2, hb _ _ _ _ h1]
  · subst e1 f1 f2
    simp [Instr.sliceBounds, e2, hb _ _ _ _ h2]
  · subst e1 f1
    simp [Instr.sliceBounds, e2, f2, hb _ _ _ _ h2, hb _ _ _ _ h1]

theorem sz_of_pos {e : TypeId} (h : knownT P e = true) (w : World) : (sizeOf e).run P w = .ok (szOf P e) w := szOf_known P h w
theorem slice_run {t e : TypeId} (hu : P.underlying t = some (.slice e)) (hk : knownT P e = true) (a : Option Addr) (len cap lo hi : Nat) (x y : Option Value) (w : World)
    (hb : (Instr.sliceBounds true len cap x y none).run P w = .ok (lo, hi, cap) w) :
    (Instr.sliceAt t (.slice a len cap) x y none).run P w = .ok (sliced a lo hi cap (szOf P e)) w := by
  have ht : P.underlying t = some (.slice (P.elem t)) := by rw [elem_slice P hu]; exact hu
  rw [run_sliceAt_slice w t _ _ _ _ ht, run_slice_any w t a len cap ht, hb]
  simp only [Result.andThen_ok, elem_slice P hu, szOf_known P hk]
theorem str_take (s : List UInt8) (lo hi : Nat) : (ByteArray.mk s.toArray).extract lo hi = ⟨((s.drop lo).take (hi - lo)).toArray⟩ := by
  apply ByteArray.ext
  simp [ByteArray.data_extract]
theorem sliceStr_ok {t : TypeId} (hs : P.underlying t = some .string) {s : List UInt8} {lo hi : Nat} (x y : Option Value) {w : World}
    (hb : (Instr.sliceBounds false s.length s.length x y none).run P w = .ok (lo, hi, s.length) w) :
    (Instr.sliceAt t (.string ⟨s.toArray⟩) x y none).run P w = .ok (.string ⟨((s.drop lo).take (hi - lo)).toArray⟩) w := by
  rw [run_sliceAt_string w t _ _ _ _ hs]
  have hsz : (ByteArray.mk s.toArray).size = s.length := by simp [ByteArray.size]
  simp only [Instr.slice, Sem.run_bind, run_underlying hs, Result.andThen_ok, Option.isSome_none, Bool.false_eq_true, if_false, hsz, hb, Sem.run_pure, str_take]
theorem capOk_ok {nx : Nat} {hp : Tr SBlk} {w0 : World} (hr : HRel E loc P nx hp w0) {e : TypeId} {b off len d : Nat} (h : capOk hp e (szOf P e) (.sl b off len (.gr d)) = true) : d + len ≤ (loc b).2 := by
  unfold capOk at h
  simp only at h
  split at h
  · rename_i k hk
    obtain ⟨ty, cells, ex, fr⟩ := k
    simp only at h
    cases ex <;> simp only [cond] at h
    · cases h1 : Nat.beq ty e <;> rw [h1] at h <;> try (cases h; done)
      cases h2 : Nat.beq (szOf P e) 0 <;> rw [h2] at h <;> try (cases h; done)
      simp only at h
      have e1 := Nat.eq_of_beq_eq_true h1
      have e2 := beq0_false h2
      have e3 : (d + len) * szOf P e ≤ cells.length := Nat.le_of_ble_eq_true h
      obtain ⟨cur, fz, rest, g1, g2, g3, g4, g5⟩ := hr.rel b _ hk
      obtain ⟨g6, _, _⟩ := g5 rfl
      have g7 : cells.length ≤ cur.size := by
        have := congrArg List.length g3
        simp [denL_length] at this
        omega
      simp only at g6
      rw [g6, e1] at g7
      exact Nat.le_of_mul_le_mul_right (Nat.le_trans e3 g7) (by omega)
    · cases h
  · cases h
theorem sliceV_ok {t e : TypeId} (hu : P.underlying t = some (.slice e)) (hk : knownT P e = true) {nx : Nat} {tm : Tr SV} {a : Act} (ht : TRel E loc nx tm a.tmps) {hp : Tr SBlk} {w0 : World} (hr : HRel E loc P nx hp w0)
    {sv v : SV} {n : Nat} {x y : Option Operand} (hn : lenV sv = some n) (hns : ∀ s, sv ≠ .str s) (hc : capOk hp e (szOf P e) sv = true) (h : sliceV (szOf P e) sv (bound tm x 0) (bound tm y n) = some v) (hw : sv.wf E nx) (w : World) :
    (Instr.sliceAt t (sv.den E loc) (x.map a.eval) (y.map a.eval) none).run P w = .ok (v.den E loc) w ∧ v.wf E nx := by
  cases sv <;> (try (cases hn; done))
  case str s => exact absurd rfl (hns s)
  case nils =>
    cases hn
    simp only [sliceV] at h
    cases hx : bound tm x 0 with
    | none => rw [hx] at h; cases h
    | some lo =>
      cases hy : bound tm y 0 with
      | none => rw [hx, hy] at h; cases h
      | some hi =>
        rw [hx, hy] at h
        simp only at h
        cases b1 : Nat.beq lo 0 <;> rw [b1] at h <;> try (cases h; done)
        cases b2 : Nat.beq hi 0 <;> rw [b2] at h <;> try (cases h; done)
        cases h
        have e1 := Nat.eq_of_beq_eq_true b1
        have e2 := Nat.eq_of_beq_eq_true b2
        subst e1 e2
        refine ⟨?_, trivial⟩
        have hb := sliceBounds_ok E loc P true 0 0 0 0 x y ht hx hy (Nat.le_refl _) (Nat.le_refl _) w
        have := slice_run P hu hk none 0 0 0 0 _ _ w hb
        simpa [sliced, SV.den] using this
  case sl b off len c =>
    cases hn
    simp only [sliceV] at h
    cases hx : bound tm x 0 with
    | none => rw [hx] at h; cases h
    | some lo =>
      cases hy : bound tm y n with
      | none => rw [hx, hy] at h; cases h
      | some hi =>
        rw [hx, hy] at h
        simp only at h
        cases c with
        | ex c =>
          simp only at h
          cases b1 : Nat.ble lo hi <;> rw [b1] at h <;> try (cases h; done)
          cases b2 : Nat.ble hi c <;> rw [b2] at h <;> try (cases h; done)
          cases h
          have e1 := Nat.le_of_ble_eq_true b1
          have e2 := Nat.le_of_ble_eq_true b2
          refine ⟨?_, hw⟩
          have hb := sliceBounds_ok E loc P true n c lo hi x y ht hx hy e1 e2 w
          have := slice_run P hu hk (some ⟨(loc b).1, off, none⟩) n c lo hi _ _ w hb
          simp only [SV.den, Cap.den]
          rw [this]
          cases b3 : Nat.beq c lo
          · have : c ≠ lo := fun e => by rw [e, Nat.beq_refl] at b3; cases b3
            simp [sliced, this, add_plain']
          · have := Nat.eq_of_beq_eq_true b3
            simp [sliced, this]
        | gr d =>
          simp only at h
          have hcap := capOk_ok E loc P hr hc
          cases b1 : Nat.ble lo hi <;> rw [b1] at h <;> try (cases h; done)
          cases b2 : Nat.ble hi n <;> rw [b2] at h <;> try (cases h; done)
          have e1 := Nat.le_of_ble_eq_true b1
          have e2 := Nat.le_of_ble_eq_true b2
          have hb := sliceBounds_ok E loc P true n ((loc b).2 - d) lo hi x y ht hx hy e1 (by omega) w
          have := slice_run P hu hk (some ⟨(loc b).1, off, none⟩) n _ lo hi _ _ w hb
          simp only [cond] at h
          cases b3 : Nat.beq lo 0 <;> rw [b3] at h
          · simp only at h
            cases b4 : Nat.blt lo n <;> rw [b4] at h <;> try (cases h; done)
            cases h
            have e4 := blt_lt b4
            refine ⟨?_, hw⟩
            simp only [SV.den, Cap.den]
            rw [this]
            have : ¬ (loc b).2 - d = lo := by omega
            simp [sliced, this, add_plain']
            omega
          · cases h
            have e3 := Nat.eq_of_beq_eq_true b3
            subst e3
            refine ⟨?_, hw⟩
            simp only [SV.den, Cap.den]
            rw [this]
            simp [sliced, add_plain']

/-! kinds turned -/
theorem convV_ok {src dst : TypeId} {x v : SV} (h : convV P src dst x = some v) (w : World) : (convert src dst (x.den E loc)).run P w = .ok (v.den E loc) w ∧ v.wf E 0 := by
  cases x <;> simp only [convV] at h <;> try (cases h; done)
  case int k e =>
    split at h
    · rename_i k1 hs
      split at h
      · rename_i k2 hd
        cases h
        refine ⟨?_, by simp only [SV.wf, mkWrap_den]; exact inR_wrap _ _⟩
        simp only [SV.den, convert, Sem.run_bind, run_underlying hs, run_underlying hd, Result.andThen_ok, mkWrap_den]
        rfl
      · cases h
    · cases h
  case str s =>
    cases hs : strT P src <;> rw [hs] at h <;> try (cases h; done)
    cases hd : strT P dst <;> rw [hd] at h <;> try (cases h; done)
    cases h
    refine ⟨?_, trivial⟩
    simp only [SV.den, convert, Sem.run_bind, run_underlying (strT_ok P hs), run_underlying (strT_ok P hd), Result.andThen_ok, Sem.run_pure]

end Sx
end Go.Proofs.YtfdggebddcoeeaaGreatDoor
end

/-
  All silent operations in one statement.
-/
noncomputable section
namespace Go.Proofs.YtfdggebddcoeeaaGreatDoor
namespace Sx
open Go Go.RowKit
variable (E : Env) (loc : Nat → Nat × Nat) (P : Program) (G : Gl)

theorem silL_ok {o : Oper} {f : Tr SV → Tr SBlk → Option SV} (hc : cls P G o.op = .sil f) (hl : isLoad o.op = true) {nx : Nat} {tm : Tr SV} {hp : Tr SBlk} {a : Act} {v : SV} (ht : TRel E loc nx tm a.tmps)
    (h : f tm hp = some v) {w : World} (hr : HRel E loc P nx hp w) (hg : GOk E G w) : (execOp a.eval o).run P w = .ok (.value (v.den E loc)) w ∧ v.wf E nx := by
  unfold execOp
  cases hop : o.op <;> rw [hop] at hl hc <;> simp only [isLoad, Bool.false_eq_true] at hl
  simp only [cls] at hc
  cases hc
  obtain ⟨x, h1, h2⟩ := bindV_ok h
  obtain ⟨a1, a2⟩ := opv_ok E loc ht h1
  obtain ⟨b1, b2⟩ := loadS_ok E loc P G hr hg h2
  refine ⟨?_, b2⟩
  simp only [Sem.run_bind, a1, b1, Result.andThen_ok, Sem.run_pure]

theorem goInt_ok {n : Nat} (h : Nat.ble n many = true) : goInt n = .int .i64 (n : Int) ∧ inR .i64 (n : Int) := by
  have : n ≤ 1048576 := Nat.le_of_ble_eq_true h
  refine ⟨?_, ?_⟩
  · simp [goInt]
  · simp [inR, IntKind.min, IntKind.max, IntKind.signed, IntKind.bits]; omega

theorem keyE_ok : ∀ {l : List (SE × SE)}, (∀ p ∈ l, p.1.den E = p.2.den E) → ∀ e, (keyE l e).den E = e.den E
  | [], _, e => rfl
  | (x, n) :: l, h, e => by
    simp only [keyE]
    cases hb : SE.beq x e
    · exact keyE_ok (fun p hp => h p (List.mem_cons_of_mem _ hp)) e
    · rw [← SE.beq_eq hb]
      exact (h _ List.mem_cons_self).symm
theorem keyV_ok (hk : KOk E G) (u : SV) : ∀ loc nx, (keyV G u).den E loc = u.den E loc ∧ (u.wf E nx → (keyV G u).wf E nx) := by
  intro loc nx
  cases u <;> try exact ⟨rfl, id⟩
  · exact ⟨by simp only [keyV, SV.den, keyE_ok E hk.1], fun _ => trivial⟩
  · exact ⟨by simp only [keyV, SV.den, keyE_ok E hk.1], fun h => by simp only [keyV, SV.wf, keyE_ok E hk.1]; exact h⟩
theorem keyO_ok (hk : KOk E G) {x : Option SV} {v : SV} (h : keyO G x = some v) : ∃ u, x = some u ∧ ∀ loc nx, v.den E loc = u.den E loc ∧ (u.wf E nx → v.wf E nx) := by
  cases x with
  | none => cases h
  | some u =>
    cases h
    exact ⟨u, rfl, keyV_ok E G hk u⟩
theorem silN_ok (hk : KOk E G) {o : Oper} {f : Tr SV → Tr SBlk → Option SV} (hc : cls P G o.op = .sil f) (hl : isLoad o.op = false) {nx : Nat} {tm : Tr SV} {hp : Tr SBlk} {a : Act} {v : SV} (ht : TRel E loc nx tm a.tmps)
    (h : f tm hp = some v) {w0 : World} (hr : HRel E loc P nx hp w0) (w : World) : (execOp a.eval o).run P w = .ok (.value (v.den E loc)) w ∧ v.wf E nx := by
  unfold execOp
  cases hop : o.op <;> rw [hop] at hl hc <;> simp only [cls] at hc <;> (try (cases hc; done)) <;> (try (simp only [isLoad, Bool.true_eq_false] at hl; done))
  case move x =>
    cases hc
    obtain ⟨a1, a2⟩ := opv_ok E loc ht h
    exact ⟨by simp only [Sem.run_pure, a1], a2⟩
  case assign x =>
    cases hc
    obtain ⟨a1, a2⟩ := opv_ok E loc ht h
    exact ⟨by simp only [Sem.run_pure, a1], a2⟩
  case pick c x y =>
    cases hc
    obtain ⟨t, a1, a2, a3⟩ := pickV_ok E loc ht h
    refine ⟨?_, a3⟩
    simp only [a1, asBool, Sem.run_bind, Sem.run_pure, Result.andThen_ok, a2]
  case build t ps =>
    cases hc
    dsimp only at h
    split at h
    · rename_i vs hvs
      obtain ⟨a1, a2⟩ := parts_ok E loc ht hvs
      obtain ⟨b1, b2⟩ := buildV_ok E loc P h a2 w
      refine ⟨?_, b2⟩
      have e : (ps.map fun (x : Nat × Operand) => (x.1, a.eval x.2)) = (denP E loc vs).toArray := by
        apply Array.ext'
        rw [Array.toList_map, a1]
      have e' : (ps.map fun x => match x with | (i, x) => (i, a.eval x)) = (denP E loc vs).toArray := e
      simp only [e', Sem.run_bind, b1, Result.andThen_ok, Sem.run_pure]
    · cases h
  case nilCheck x =>
    cases hc
    obtain ⟨x', h1, h2⟩ := bindV_ok h
    obtain ⟨a1, a2⟩ := opv_ok E loc ht h1
    cases x' <;> simp only [nilV] at h2 <;> try (cases h2; done)
    all_goals
      cases h2
      refine ⟨?_, a2⟩
      simp only [a1, SV.den]
      rfl
  case binOp b t x y u =>
    cases hc
    obtain ⟨x', h1, h2⟩ := bindV_ok h
    obtain ⟨y', h3, h4⟩ := bindV_ok h2
    obtain ⟨a1, a2⟩ := opv_ok E loc ht h1
    obtain ⟨b1, b2⟩ := opv_ok E loc ht h3
    obtain ⟨u', h5, h6⟩ := keyO_ok E G hk h4
    obtain ⟨c1, c2⟩ := binS_ok E loc P h5 a2 b2 w x y
    refine ⟨?_, (h6 loc nx).2 (wf_any E c2 nx)⟩
    simp only [a1, b1]
    rw [Sem.run_bind, c1, (h6 loc nx).1]
    rfl
  case unOp u t x =>
    cases hc
    obtain ⟨u', h0, h6⟩ := keyO_ok E G hk h
    obtain ⟨x', h1, h2⟩ := bindV_ok h0
    obtain ⟨a1, a2⟩ := opv_ok E loc ht h1
    obtain ⟨b1, b2⟩ := unV_ok E loc P h2 w
    refine ⟨?_, (h6 loc nx).2 (wf_any E b2 nx)⟩
    rw [(h6 loc nx).1]
    simp only [a1, Sem.run_bind, b1, Result.andThen_ok, Sem.run_pure]
  case convert src dst x =>
    split at hc
    · rename_i e he
      cases k1 : strT P src <;> rw [k1] at hc <;> (try (cases hc; done)) <;> cases k2 : Nat.beq (descKind P e) 5 <;> rw [k2] at hc <;> (try (cases hc; done)) <;> cases k3 : Nat.beq (szOf P e) 1 <;> rw [k3] at hc <;> (cases hc; done)
    · cases hc
      obtain ⟨x', h1, h2⟩ := bindV_ok h
      obtain ⟨a1, a2⟩ := opv_ok E loc ht h1
      obtain ⟨b1, b2⟩ := convV_ok E loc P h2 w
      refine ⟨?_, wf_any E b2 nx⟩
      simp only [a1, Sem.run_bind, b1, Result.andThen_ok, Sem.run_pure]
  case makeFunc fn first caps =>
    cases fn <;> simp only at hc <;> try (cases hc; done)
    rename_i g
    split at hc
    · rename_i hf
      cases hc
      dsimp only at h
      split at h
      · rename_i vs hvs
        cases h
        obtain ⟨a1, a2⟩ := opsv_ok E loc ht hvs
        refine ⟨?_, a2⟩
        have e1 : first.map a.eval = #[] := by
          apply Array.ext'
          rw [Array.toList_map, hf]; rfl
        have e2 : caps.map a.eval = (denL E loc vs).toArray := by
          apply Array.ext'
          rw [Array.toList_map, a1]
        simp only [e1, e2, Instr.makeFunc, Sem.run_bind, Sem.run_pure, Result.andThen_ok, SV.den]
      · cases h
    · cases hc
  case makeSlice t l c =>
    split at hc
    · rename_i e he
      cases k1 : szPos P e <;> rw [k1] at hc <;> cases hc
    · cases hc
  case buildSlice t n ps =>
    split at hc
    · rename_i e he
      cases h5 : (and (szPos P e) (Nat.ble (Nat.mul n (szOf P e)) many)) <;> rw [h5] at hc <;> cases hc
    · cases hc
  case slice t x lo hi m =>
    cases m with
    | some m => cases hc
    | none =>
      simp only at hc
      cases he : elemOf' P t with
      | some e =>
        rw [he] at hc
        cases hc
        obtain ⟨x', h1, h2⟩ := bindV_ok h
        obtain ⟨a1, a2⟩ := opv_ok E loc ht h1
        have key : (∀ s, x' ≠ .str s) → (match lenV x' with
          | some n => cond (capOk hp e (szOf P e) x') (cond (knownT P e) (sliceV (szOf P e) x' (bound tm lo 0) (bound tm hi n)) none) none
          | none => none) = some v → _ := fun hns h2 => by
          cases hn : lenV x' with
          | none => rw [hn] at h2; cases h2
          | some n =>
            rw [hn] at h2
            cases hc : capOk hp e (szOf P e) x' <;> simp only [hc, cond] at h2 <;> try (cases h2; done)
            cases hk : knownT P e <;> rw [hk] at h2 <;> try (cases h2; done)
            exact sliceV_ok E loc P (elemOf'_ok P he) hk ht hr hn hns hc h2 a2 w
        obtain ⟨b1, b2⟩ : (Instr.sliceAt t (x'.den E loc) (lo.map a.eval) (hi.map a.eval) none).run P w = .ok (v.den E loc) w ∧ v.wf E nx := by
          cases x' <;> first
            | (cases h2; done)
            | exact key (fun s hs => by cases hs) h2
        refine ⟨?_, b2⟩
        simp only [a1, Option.map_none, Sem.run_bind, b1, Result.andThen_ok, Sem.run_pure]
      | none =>
        rw [he] at hc
        simp only at hc
        cases hs : strT P t <;> rw [hs] at hc <;> try (cases hc; done)
        cases hc
        obtain ⟨x', h1, h2⟩ := bindV_ok h
        obtain ⟨a1, a2⟩ := opv_ok E loc ht h1
        cases x' <;> simp only at h2 <;> try (cases h2; done)
        rename_i s
        simp only [sliceV] at h2
        cases hx : bound tm lo 0 with
        | none => rw [hx] at h2; cases h2
        | some l =>
          cases hy : bound tm hi s.length with
          | none => rw [hx, hy] at h2; cases h2
          | some r =>
            rw [hx, hy] at h2
            simp only at h2
            cases b1 : Nat.ble l r <;> rw [b1] at h2 <;> try (cases h2; done)
            cases b2 : Nat.ble r s.length <;> rw [b2] at h2 <;> try (cases h2; done)
            cases h2
            have e1 := Nat.le_of_ble_eq_true b1
            have e2 := Nat.le_of_ble_eq_true b2
            refine ⟨?_, trivial⟩
            have hb := sliceBounds_ok E loc P false s.length s.length l r lo hi ht hx hy e1 e2 w
            have := sliceStr_ok P (strT_ok P hs) _ _ hb
            simp only [a1, SV.den, Option.map_none, Sem.run_bind, this, Result.andThen_ok, Sem.run_pure]
            rfl
  case fieldAddr t x i =>
    split at hc
    · rename_i fl hf
      cases hz : Nat.beq (szOf P fl.type) 0 <;> rw [hz] at hc <;> try (cases hc; done)
      cases hc
      obtain ⟨x', h1, h2⟩ := bindV_ok h
      obtain ⟨a1, a2⟩ := opv_ok E loc ht h1
      obtain ⟨b1, b2⟩ := fieldAddr_ok E loc P hf hz h2 a2 w
      refine ⟨?_, b2⟩
      simp only [a1, Sem.run_bind, b1, Result.andThen_ok, Sem.run_pure]
    · cases hc
  case field t x i =>
    split at hc
    · rename_i fl hf
      cases hc
      obtain ⟨x', h1, h2⟩ := bindV_ok h
      obtain ⟨a1, a2⟩ := opv_ok E loc ht h1
      cases x' <;> simp only at h2 <;> try (cases h2; done)
      obtain ⟨fs, hu, hi⟩ := fieldAt'_ok P hf
      obtain ⟨b1, b2⟩ := partS_ok E loc P h2 a2 w
      refine ⟨?_, b2⟩
      simp only [a1, SV.den, Instr.field, Sem.run_bind, run_underlying hu, Result.andThen_ok, hi, asAgg, Sem.run_pure, b1]
    · cases hc
  case indexAddr t x i =>
    cases hc
    obtain ⟨x', h1, h2⟩ := bindV_ok h
    obtain ⟨a1, a2⟩ := opv_ok E loc ht h1
    split at h2
    · rename_i n hn
      obtain ⟨k, c1, c2⟩ := opN_ok E loc ht hn
      obtain ⟨b1, b2⟩ := idxAddr_ok E loc P h2 a2 k w
      refine ⟨?_, b2⟩
      simp only [a1, c1, Sem.run_bind, b1, Result.andThen_ok, Sem.run_pure]
    · cases h2
  case index t x i =>
    cases hc
    obtain ⟨x', h1, h2⟩ := bindV_ok h
    obtain ⟨a1, a2⟩ := opv_ok E loc ht h1
    split at h2
    · rename_i n hn
      obtain ⟨k, c1, c2⟩ := opN_ok E loc ht hn
      obtain ⟨b1, b2⟩ := idxV_ok E loc P h2 a2 k w
      refine ⟨?_, b2⟩
      simp only [a1, c1, Sem.run_bind, b1, Result.andThen_ok, Sem.run_pure]
    · cases h2
  case extract x i =>
    cases hc
    obtain ⟨x', h1, h2⟩ := bindV_ok h
    obtain ⟨a1, a2⟩ := opv_ok E loc ht h1
    cases x' <;> simp only at h2 <;> try (cases h2; done)
    rename_i vs
    refine ⟨?_, wfL_get E a2 h2⟩
    have : (denL E loc vs).toArray[i]? = some (v.den E loc) := by
      simp [denL_eq, h2]
    simp only [a1, SV.den, Instr.extract, this, Sem.run_bind, Sem.run_pure, Result.andThen_ok]
  case call c =>
    obtain ⟨callee, args, ts⟩ := c
    cases callee <;> simp only at hc <;> try (cases hc; done)
    rename_i b
    have hargs : ∀ {l}, opsv tm args.toList = some l → args.map a.eval = (denL E loc l).toArray ∧ wfL E nx l := fun hl => by
      obtain ⟨a1, a2⟩ := opsv_ok E loc ht hl
      exact ⟨Array.ext' (by rw [Array.toList_map, a1]), a2⟩
    cases b <;> simp only [builtinC] at hc <;> (try (cases hc; done))
    case len =>
      cases hc
      dsimp only at h
      split at h
      · rename_i l hl
        obtain ⟨e1, e2⟩ := hargs hl
        split at h
        · rename_i x'
          split at h
          · rename_i t hts
            have hrun : ∀ n : Nat, Nat.ble n many = true → (Builtin.len_ ts o.type (denL E loc [x']).toArray).run P w = .ok (goInt n) w →
                (do let d ← resolve a.eval ⟨.builtin .len, args, ts⟩ o.type; invoke d.target d.args : Sem Next).run P w = .ok (.value ((SV.int .i64 (.lit (.ofNat n))).den E loc)) w ∧ (SV.int .i64 (.lit (.ofNat n))).wf E nx := fun n hn hr' => by
              obtain ⟨g1, g2⟩ := goInt_ok hn
              refine ⟨?_, g2⟩
              simp only [resolve, invoke, builtin, Sem.run_bind, Sem.run_pure, Result.andThen_ok, e1, hr', g1]
              rfl
            split at h
            · rename_i n e harr
              cases hb : Nat.ble n many <;> rw [hb] at h <;> try (cases h; done)
              cases h
              refine hrun n hb ?_
              have := arrOf_ok P harr
              cases x' <;> simp only [Builtin.len_, hts, denL, SV.den, List.getElem?_toArray, List.getElem?_cons_zero, Sem.run_bind, run_underlying this, Result.andThen_ok, Sem.run_pure]
            · cases hor : lenK P t x' <;> rw [hor] at h <;> try (cases h; done)
              simp only [cond] at h
              split at h
              · rename_i n hn
                cases hb : Nat.ble n many <;> rw [hb] at h <;> try (cases h; done)
                cases h
                refine hrun n hb ?_
                cases x' <;> simp only [lenV] at hn <;> (try (cases hn; done)) <;> simp only [lenK] at hor <;> cases hn
                · simp only [Builtin.len_, hts, denL, SV.den, List.getElem?_toArray, List.getElem?_cons_zero, Sem.run_bind, run_underlying (strT_ok P hor), Result.andThen_ok, Sem.run_pure]
                  simp [ByteArray.size]
                all_goals
                  obtain ⟨e, he⟩ := Option.isSome_iff_exists.1 hor
                  simp only [Builtin.len_, hts, denL, SV.den, List.getElem?_toArray, List.getElem?_cons_zero, Sem.run_bind, run_underlying (elemOf'_ok P he), Result.andThen_ok, Sem.run_pure]
              · cases h
          · cases h
        · cases h
      · cases h
    case min =>
      cases hc
      dsimp only at h
      split at h
      · rename_i l hl
        obtain ⟨e1, e2⟩ := hargs hl
        split at h
        · rename_i k p l q
          by_cases hkl : k = l
          · subst hkl
            simp only [decide_true, cond] at h
            cases h
            obtain ⟨kd, kw⟩ := keyV_ok E G hk (minV k p q) loc nx
            rw [kd]
            refine ⟨?_, kw ?_⟩
            · simp only [resolve, invoke, builtin, Sem.run_bind, Sem.run_pure, Result.andThen_ok, e1, denL, SV.den, run_min_int2, minV, mkIte_den, mkLt_den]
              congr 3
              by_cases z : q.den E < p.den E <;> simp [z]
            · simp only [minV, SV.wf, mkIte_den]
              split
              · exact e2.1
              · exact e2.2.1
          · simp [hkl] at h
        · cases h
      · cases h
    case max =>
      cases hc
      dsimp only at h
      split at h
      · rename_i l hl
        obtain ⟨e1, e2⟩ := hargs hl
        split at h
        · rename_i k p l q
          by_cases hkl : k = l
          · subst hkl
            simp only [decide_true, cond] at h
            cases h
            obtain ⟨kd, kw⟩ := keyV_ok E G hk (maxV k p q) loc nx
            rw [kd]
            refine ⟨?_, kw ?_⟩
            · simp only [resolve, invoke, builtin, Sem.run_bind, Sem.run_pure, Result.andThen_ok, e1, denL, SV.den, run_max_int2, maxV, mkIte_den, mkLt_den]
              congr 3
              by_cases z : p.den E < q.den E <;> simp [z]
            · simp only [maxV, SV.wf, mkIte_den]
              split
              · exact e2.1
              · exact e2.2.1
          · simp [hkl] at h
        · cases h
      · cases h

end Sx
end Go.Proofs.YtfdggebddcoeeaaGreatDoor
end

/-
  Operations that make a block, or write.
-/
noncomputable section
namespace Go.Proofs.YtfdggebddcoeeaaGreatDoor
namespace Sx
open Go Go.RowKit
variable (E : Env) (loc : Nat → Nat × Nat) (P : Program) (G : Gl)

def upd (nx : Nat) (x : Nat × Nat) : Nat → Nat × Nat := fun b => if b = nx then x else loc b
theorem upd_self (nx : Nat) (x : Nat × Nat) : upd loc nx x nx = x := by simp [upd]
theorem upd_lt {nx b : Nat} (x : Nat × Nat) (h : b < nx) : upd loc nx x b = loc b := by simp [upd]; omega

theorem brel_congr {loc' : Nat → Nat × Nat} {w w' : World} {nx b : Nat} {k : SBlk} (hl : ∀ b, b < nx → loc' b = loc b) (hb : b < nx) (hw : wfL E nx k.cells) (hh : w'.heap[(loc b).1]? = w.heap[(loc b).1]?)
    (h : BRel E loc P w b k) : BRel E loc' P w' b k := by
  obtain ⟨cur, fz, rest, h1, h2, h3, h4, h5⟩ := h
  refine ⟨cur, fz, rest, ?_, h2, ?_, h4, ?_⟩
  · rw [hl b hb, hh]; exact h1
  · rw [denL_congr E loc hl k.cells hw]; exact h3
  · rw [hl b hb]; exact h5
/-- the blocks that stay, and one new or changed block -/
theorem hrel_put {nx nx' : Nat} {hp hp1 : Tr SBlk} {w w' : World} (hr : HRel E loc P nx hp w) {loc' : Nat → Nat × Nat} (hl : ∀ b, b < nx → loc' b = loc b) (hn : nx ≤ nx') {c : Nat} {k : SBlk}
    (hsub : ∀ b k', (hp1.set c k).get b = some k' → (b = c ∧ k = k') ∨ (b ≠ c ∧ hp.get b = some k' ∧ w'.heap[(loc b).1]? = w.heap[(loc b).1]? ∧ (loc b).1 ≠ (loc' c).1))
    (hc : c < nx') (hb : BRel E loc' P w' c k) (hw : wfL E nx' k.cells) (h1 : allOne k.cells = true) : HRel E loc' P nx' (hp1.set c k) w' := by
  refine ⟨fun b k' h => ?_, fun b k' h => ?_, fun b k' h => ?_, fun b k' h => ?_, fun b k' b' k'' h h' he => ?_⟩
  · rcases hsub b k' h with ⟨rfl, _⟩ | ⟨_, h2, _⟩
    · exact hc
    · exact Nat.lt_of_lt_of_le (hr.lt b k' h2) hn
  · rcases hsub b k' h with ⟨rfl, rfl⟩ | ⟨_, h2, h3, _⟩
    · exact hb
    · exact brel_congr E loc P hl (hr.lt b k' h2) (hr.wf b k' h2) h3 (hr.rel b k' h2)
  · rcases hsub b k' h with ⟨rfl, rfl⟩ | ⟨_, h2, _⟩
    · exact hw
    · exact wfL_mono E hn _ (hr.wf b k' h2)
  · rcases hsub b k' h with ⟨rfl, rfl⟩ | ⟨_, h2, _⟩
    · exact h1
    · exact hr.one b k' h2
  · rcases hsub b k' h with ⟨rfl, _⟩ | ⟨_, h2, _, h4⟩ <;> rcases hsub b' k'' h' with ⟨e1, _⟩ | ⟨_, h2', _, h4'⟩
    · exact e1.symm
    · exact absurd (by rw [he, hl b' (hr.lt b' k'' h2')]) h4'
    · subst e1; exact absurd (by rw [← he, hl b (hr.lt b k' h2)]) h4
    · rw [hl b (hr.lt b k' h2), hl b' (hr.lt b' k'' h2')] at he
      exact hr.inj b k' b' k'' h2 h2' he
theorem hrel_lt {nx : Nat} {hp : Tr SBlk} {w : World} (hr : HRel E loc P nx hp w) {b : Nat} {k : SBlk} (h : hp.get b = some k) : (loc b).1 < w.heap.size := by
  obtain ⟨cur, fz, rest, h1, _⟩ := hr.rel b k h
  exact (Array.getElem?_eq_some_iff.1 h1).1
theorem hrel_new {nx : Nat} {hp : Tr SBlk} {w w' : World} (hr : HRel E loc P nx hp w) (hbel : Below w.heap.size w w') {g c : Nat} (hg : w.heap.size ≤ g) {k : SBlk}
    (hb : BRel E (upd loc nx (g, c)) P w' nx k) (hw : wfL E (nx + 1) k.cells) (h1 : allOne k.cells = true) : HRel E (upd loc nx (g, c)) P (nx + 1) (hp.set nx k) w' := by
  refine hrel_put E loc P hr (fun b hb => upd_lt loc _ hb) (Nat.le_succ nx) (fun b k' h => ?_) (Nat.lt_succ_self nx) hb hw h1
  rcases Tr.get_set h with ⟨e, h2⟩ | ⟨e, h2⟩
  · exact .inl ⟨e, h2⟩
  · have := hrel_lt E loc P hr h2
    exact .inr ⟨e, h2, hbel.block _ this, by rw [upd_self]; simp only; omega⟩

theorem repl_length (z : List SV) (n : Nat) : (repl z n).length = n * z.length := by
  induction n with
  | zero => simp [repl]
  | succ n ih => simp [repl, ih, Nat.add_mul]; omega
theorem repl_mem {z : List SV} {n : Nat} {v : SV} (h : v ∈ repl z n) : v ∈ z := by
  induction n with
  | zero => simp [repl] at h
  | succ n ih =>
    rcases List.mem_append.1 h with h | h
    · exact h
    · exact ih h
theorem repl_wf {nx : Nat} {z : List SV} (h : wfL E nx z) (n : Nat) : wfL E nx (repl z n) := (wfL_iff E nx _).2 fun v hv => (wfL_iff E nx z).1 h v (repl_mem hv)
theorem repl_one {z : List SV} (h : allOne z = true) (n : Nat) : allOne (repl z n) = true := (allOne_iff _).2 fun v hv => (allOne_iff z).1 h v (repl_mem hv)
theorem repl_get (z : List SV) (hz : z ≠ []) (n k : Nat) (h : k < n * z.length) : (repl z n)[k]? = z[k % z.length]? := by
  induction n generalizing k with
  | zero => simp at h
  | succ n ih =>
    have hp : 0 < z.length := List.length_pos_iff.2 hz
    simp only [repl]
    by_cases hk : k < z.length
    · rw [List.getElem?_append_left hk, Nat.mod_eq_of_lt hk]
    · rw [List.getElem?_append_right (by omega), ih (k - z.length) (by rw [Nat.add_mul, Nat.one_mul] at h; omega)]
      congr 1
      rw [← Nat.mod_eq_sub_mod (by omega)]
theorem rowS_ok {nx n len : Nat} {z : SV} {vs : List (Nat × SV)} {cs : List SV} (h : rowS n len z vs = some cs) (hv : wfP E nx vs) (hz : wfL E nx (cellsOf z)) (hl : n = (cellsOf z).length) :
    Instr.fill (fun i => some (i * n, n)) (denL E loc (repl (cellsOf z) len)).toArray (denP E loc vs) = some (denL E loc cs).toArray ∧ wfL E nx cs := by
  have gen : ∀ {c}, fillS (fun i => some (Nat.mul i n, n)) (repl (cellsOf z) len) vs = some c → Instr.fill (fun i => some (i * n, n)) (denL E loc (repl (cellsOf z) len)).toArray (denP E loc vs) = some (denL E loc c).toArray ∧ wfL E nx c :=
    fun hc => fillS_ok E loc (pl' := fun i => some (i * n, n)) (fun i x hx => hx) hc (repl_wf E hz len) hv
  unfold rowS at h
  split at h
  · rename_i c hc
    cases b1 : Nat.beq c.length (Nat.mul len n) <;> rw [b1] at h
    · exact gen h
    · have e1 : c.length = len * n := Nat.eq_of_beq_eq_true b1
      cases h
      exact seqP_ok E loc hc hv _ (by simp [denL_length, repl_length, e1, hl])
  · exact gen h
/-- a block laid whole -/
theorem brel_alloc {w : World} {nx : Nat} {t : TypeId} {cs : List SV} (c : Nat) (hw : wfL E nx cs) :
    BRel E (upd loc nx (w.heap.size, c)) P (w.alloc (.cells (denL E loc cs).toArray t)) nx ⟨t, cs, true, false⟩ := by
  refine ⟨(denL E loc cs).toArray, (0, 0), [], ?_, fun _ => rfl, ?_, fun _ => rfl, fun h => by cases h⟩
  · rw [upd_self]; exact heap_alloc_new w _
  · rw [denL_congr E loc (fun b hb => upd_lt loc _ hb) cs hw]; simp
theorem below_alloc (w : World) (o : Obj) : Below w.heap.size w (w.alloc o) := (Below.refl _ w).alloc (Nat.le_refl _) o

theorem szPos_ok {e : TypeId} (h : szPos P e = true) : ∃ i z, P.info? e = some i ∧ i.zero = some z ∧ z.cells.size = i.size ∧ szOf P e = i.size ∧ 0 < i.size ∧ i.bytes ≤ 64 := by
  unfold szPos at h
  cases hi : P.info? e with
  | none => rw [hi] at h; cases h
  | some i =>
    rw [hi] at h
    simp only at h
    cases h0 : Nat.beq i.size 0 <;> rw [h0] at h <;> try (cases h; done)
    cases h1 : Nat.ble i.bytes 64 <;> rw [h1] at h <;> try (cases h; done)
    cases hz : i.zero with
    | none => rw [hz] at h; cases h
    | some z =>
      rw [hz] at h
      exact ⟨i, z, rfl, hz, Nat.eq_of_beq_eq_true h, by simp [szOf, hi], Nat.pos_of_ne_zero (beq0_false h0), Nat.le_of_ble_eq_true h1⟩
theorem made_eq {z : SV} {n m : Nat} (hm : (cellsOf z).length = m) (hp : 0 < m) : (Array.range (n * m)).map ((z.den E loc).cells[· % (z.den E loc).cells.size]!) = (denL E loc (repl (cellsOf z) n)).toArray := by
  subst hm
  have hz : cellsOf z ≠ [] := List.length_pos_iff.1 hp
  apply Array.ext_getElem?
  intro k
  rw [cellsOf_den]
  simp only [List.size_toArray, denL_length, List.getElem?_toArray]
  by_cases hk : k < n * (cellsOf z).length
  · have hlt : k % (cellsOf z).length < (cellsOf z).length := Nat.mod_lt _ hp
    rw [denL_eq E loc (repl _ _), List.getElem?_map, repl_get _ hz n k hk]
    simp [hk, denL_eq, hlt]
  · rw [denL_eq E loc (repl _ _), List.getElem?_map, List.getElem?_eq_none (by rw [repl_length]; omega), Array.getElem?_eq_none (by simp; omega)]
    rfl

theorem desc5 {e : TypeId} (h : descKind P e = 5) : P.underlying e = some (.int .u8) := by
  unfold descKind at h
  split at h
  · rename_i k hu
    rw [hu]
    cases k <;> first | rfl | (simp at h)
  · simp at h
  · simp at h
theorem byteWf (c : UInt8) (nx : Nat) : (SV.int .u8 (.lit (.ofNat c.toNat))).wf E nx := by
  have := c.toNat_lt
  simp [SV.wf, SE.den, inR, IntKind.min, IntKind.max, IntKind.signed, IntKind.bits]
  omega
/-- what an operation that makes a block does -/
theorem alc_ok {o : Oper} {f : Tr SV → Option AR} (hc : cls P G o.op = .alc f) {nx : Nat} {tm : Tr SV} {a : Act} {k : SBlk} {val : Nat → SV} (ht : TRel E loc nx tm a.tmps)
    (h : f tm = some ⟨k, val⟩) (w : World) : ∃ w' g c, (execOp a.eval o).run P w = .ok (.value ((val nx).den E (upd loc nx (g, c)))) w' ∧ Below w.heap.size w w' ∧ w.heap.size ≤ g ∧
      BRel E (upd loc nx (g, c)) P w' nx k ∧ wfL E (nx + 1) k.cells ∧ allOne k.cells = true ∧ (val nx).wf E (nx + 1) := by
  unfold execOp
  cases hop : o.op <;> rw [hop] at hc <;> simp only [cls] at hc <;> (try (cases hc; done))
  case box t x =>
    cases hc
    dsimp only at h
    split at h
    · rename_i v hv
      cases h1 : allOne (cellsOf v) <;> rw [h1] at h <;> try (cases h; done)
      cases h
      obtain ⟨a1, a2⟩ := opv_ok E loc ht hv
      have hw := cellsOf_wf E a2
      refine ⟨_, w.heap.size, 0, ?_, below_alloc w _, Nat.le_refl _, brel_alloc E loc P 0 hw, wfL_mono E (Nat.le_succ nx) _ hw, h1, Nat.lt_succ_self nx⟩
      simp only [a1, Instr.box, newVar, newRow, cellsOf_den, Sem.run_bind, run_newObj_alloc, Result.andThen_ok, Sem.run_pure, SV.den, upd_self]
    · cases h
  case alloc t =>
    cases hc
    dsimp only at h
    split at h
    · rename_i v hv
      cases h1 : allOne (cellsOf v) <;> rw [h1] at h <;> try (cases h; done)
      cases h
      obtain ⟨i, a1, a2, a3⟩ := zeroOf_ok E loc P hv nx
      have hw := cellsOf_wf E a3
      refine ⟨_, w.heap.size, 0, ?_, below_alloc w _, Nat.le_refl _, brel_alloc E loc P 0 hw, wfL_mono E (Nat.le_succ nx) _ hw, h1, Nat.lt_succ_self nx⟩
      have hz : (zeroValue t).run P w = .ok (v.den E loc) w := by simp [zeroValue, typeInfo, a1, a2]
      simp only [Instr.alloc, hz, newVar, newRow, cellsOf_den, Sem.run_bind, run_newObj_alloc, Result.andThen_ok, Sem.run_pure, SV.den, upd_self]
    · cases h
  case convert src dst x =>
    split at hc
    · rename_i e he
      cases k1 : strT P src <;> rw [k1] at hc <;> try (cases hc; done)
      cases k2 : Nat.beq (descKind P e) 5 <;> rw [k2] at hc <;> try (cases hc; done)
      cases k3 : Nat.beq (szOf P e) 1 <;> rw [k3] at hc <;> try (cases hc; done)
      cases hc
      dsimp only at h
      split at h
      · rename_i v hv
        split at h
        · rename_i s
          cases h1 : Nat.ble s.length many <;> rw [h1] at h <;> try (cases h; done)
          cases h
          obtain ⟨a1, a2⟩ := opv_ok E loc ht hv
          have hsz : (ByteArray.mk s.toArray).size = s.length := by simp [ByteArray.size]
          have hrun := run_bytes_of_string (P := P) w src dst e ⟨s.toArray⟩ (strT_ok P k1) (elemOf'_ok P he) (desc5 P (Nat.eq_of_beq_eq_true k2))
          have hle : s.length ≤ 1048576 := Nat.le_of_ble_eq_true h1
          have hcap := grownCap_le_maxLen w s.length 0 e (by simp [maxLen]; omega)
          have hge := grownCap_ge w s.length 0 e
          have hwf : wfL E nx (s.map fun c => SV.int .u8 (.lit (.ofNat c.toNat))) := (wfL_iff E nx _).2 fun v hv => by
            obtain ⟨c, _, rfl⟩ := List.mem_map.1 hv
            exact byteWf E c nx
          refine ⟨(w.drew.alloc (.cells (bytesRow ⟨s.toArray⟩ (grownCap w s.length 0 e)) e ((bytesRow ⟨s.toArray⟩ (grownCap w s.length 0 e)).size, (bytesRow ⟨s.toArray⟩ (grownCap w s.length 0 e)).size + 1))), w.heap.size, grownCap w s.length 0 e, ?_, ?_, Nat.le_refl _, ?_, wfL_mono E (Nat.le_succ nx) _ hwf, ?_, Nat.lt_succ_self nx⟩
          · simp only [a1, SV.den]
            rw [Sem.run_bind, hrun]
            simp only [Result.andThen_ok, Sem.run_pure, Cap.den, upd_self, hsz, Nat.sub_zero]
          · exact ((Below.refl _ w).drew).alloc (by simp) _
          · refine ⟨bytesRow ⟨s.toArray⟩ (grownCap w s.length 0 e), ((bytesRow ⟨s.toArray⟩ (grownCap w s.length 0 e)).size, (bytesRow ⟨s.toArray⟩ (grownCap w s.length 0 e)).size + 1), List.replicate (grownCap w s.length 0 e - s.length) (.int .u8 0), ?_, fun h => (by cases h), ?_, fun h => (by cases h), fun _ => ⟨?_, ?_, ?_⟩⟩
            · rw [upd_self]; exact heap_alloc_new w.drew _
            · rw [denL_congr E loc (fun b hb => upd_lt loc _ hb) _ hwf]
              simp [bytesRow, hsz, denL_eq, SV.den, SE.den]
            · rw [upd_self]
              simp only [bytesRow, hsz, Nat.eq_of_beq_eq_true k3, Array.size_append, Array.size_map, Array.size_replicate, Nat.mul_one]
              simp
              omega
            · rw [upd_self]; exact hcap
            · exact ⟨s.length, by simp [Nat.eq_of_beq_eq_true k3]⟩
          · exact (allOne_iff _).2 fun v hv => by
              obtain ⟨c, _, rfl⟩ := List.mem_map.1 hv
              rfl
        · cases h
      · cases h
    · cases hc
  case makeSlice t l c =>
    split at hc
    · rename_i e he
      cases k1 : szPos P e <;> rw [k1] at hc <;> try (cases hc; done)
      cases hc
      dsimp only at h
      split at h
      · rename_i l' hl
        split at h
        · rename_i c' hc'
          cases b1 : Nat.ble l' c' <;> rw [b1] at h <;> try (cases h; done)
          cases b2 : Nat.ble c' many <;> rw [b2] at h <;> try (cases h; done)
          simp only [cond] at h
          split at h
          · rename_i z hz
            cases b3 : allOne (cellsOf z) <;> rw [b3] at h <;> try (cases h; done)
            cases h
            have e1 := Nat.le_of_ble_eq_true b1
            have e2 : c' ≤ 1048576 := Nat.le_of_ble_eq_true b2
            obtain ⟨kl, l1, _⟩ := opN_ok E loc ht hl
            obtain ⟨kc, c1, _⟩ := opN_ok E loc ht hc'
            obtain ⟨i, z', i1, i2, i3, i4, i5, i6⟩ := szPos_ok P k1
            obtain ⟨i', j1, j2, j3⟩ := zeroOf_ok E loc P hz nx
            rw [i1] at j1
            cases j1
            rw [i2] at j2
            cases j2
            have hb : (i.bytes : Int) * (c' : Int) ≤ 281474976710656 := by
              have : i.bytes * c' ≤ 64 * 1048576 := Nat.mul_le_mul i6 e2
              have h' : ((i.bytes * c' : Nat) : Int) ≤ 281474976710656 := by omega
              rwa [Int.natCast_mul] at h'
            have hrun := run_make (P := P) w t e i _ (elemOf'_ok P he) i1 i2 kl kc l' c' (by omega) (by omega) hb (by omega)
            have hlen : (cellsOf z).length = i.size := by
              rw [cellsOf_den] at i3; simpa [denL_length] using i3
            have hm := made_eq E loc (z := z) (n := c') hlen i5
            have hw := repl_wf E (cellsOf_wf E j3) c'
            simp only [Int.toNat_natCast, madeCells, hm] at hrun
            refine ⟨_, w.heap.size, 0, ?_, below_alloc w _, Nat.le_refl _, brel_alloc E loc P 0 hw, wfL_mono E (Nat.le_succ nx) _ hw, repl_one b3 c', Nat.lt_succ_self nx⟩
            simp only [l1, c1, Sem.run_bind, hrun, Result.andThen_ok, Sem.run_pure, SV.den, Cap.den, upd_self]
          · cases h
        · cases h
      · cases h
    · cases hc
  case buildSlice t n ps =>
    split at hc
    · rename_i e he
      cases h5 : (and (szPos P e) (Nat.ble (Nat.mul n (szOf P e)) many)) <;> rw [h5] at hc <;> try (cases hc; done)
      cases hc
      dsimp only at h
      split at h
      · rename_i vs hvs
        split at h
        · rename_i z hz
          split at h
          · rename_i cs hcs
            cases b3 : allOne cs <;> rw [b3] at h <;> try (cases h; done)
            cases h
            obtain ⟨b1, b2⟩ := (Bool.and_eq_true _ _).mp h5
            have e2 : n * szOf P e ≤ 1048576 := Nat.le_of_ble_eq_true b2
            obtain ⟨a1, a2⟩ := parts_ok E loc ht hvs
            obtain ⟨i, z', i1, i2, i3, i4, i5, i6⟩ := szPos_ok P b1
            obtain ⟨i', j1, j2, j3⟩ := zeroOf_ok E loc P hz nx
            rw [i1] at j1
            cases j1
            rw [i2] at j2
            cases j2
            have hlen : (cellsOf z).length = i.size := by
              rw [cellsOf_den] at i3; simpa [denL_length] using i3
            obtain ⟨f1, f2⟩ := rowS_ok E loc hcs a2 (cellsOf_wf E j3) (by rw [i4, hlen])
            rw [i4] at f1
            have hm := made_eq E loc (z := z) (n := n) hlen i5
            have hps : (ps.map fun x => match x with | (i, x) => (i, a.eval x)) = (denP E loc vs).toArray := by
              apply Array.ext'
              rw [Array.toList_map]
              exact a1
            refine ⟨_, w.heap.size, 0, ?_, below_alloc w _, Nat.le_refl _, brel_alloc E loc P 0 f2, wfL_mono E (Nat.le_succ nx) _ f2, b3, Nat.lt_succ_self nx⟩
            have hsz : (sizeOf e).run P w = .ok i.size w := by rw [szOf_run' P i1, i4]
            have hzv : (zeroValue e).run P w = .ok (z.den E loc) w := by simp [zeroValue, typeInfo, i1, i2]
            have n1 : ¬ (n * i.size > 2 ^ 24) := by rw [← i4]; omega
            simp only [hps, Instr.buildSlice, Sem.run_bind, run_underlying (elemOf'_ok P he), hsz, Result.andThen_ok, if_neg n1]
            by_cases hz0 : n * i.size = 0
            · have hm' : ∀ g : Nat → Value, (Array.range (n * i.size)).map g = (denL E loc (repl (cellsOf z) n)).toArray := fun g => by
                rw [← hm, hz0]; simp
              simp only [if_pos hz0, Sem.run_pure, Result.andThen_ok, hm', f1, newRow, Sem.run_bind, run_newObj_alloc]
              simp only [SV.den, Cap.den, upd_self]
            · simp only [if_neg hz0, Sem.run_bind, hzv, Sem.run_pure, Result.andThen_ok, hm, f1, newRow, run_newObj_alloc]
              simp only [SV.den, Cap.den, upd_self]
          · cases h
        · cases h
      · cases h
    · cases hc
  case makeFunc fn first caps =>
    cases fn <;> simp only at hc <;> try (cases hc; done)
    split at hc <;> cases hc
  case slice t x lo hi m =>
    cases m with
    | some m => cases hc
    | none =>
      simp only at hc
      cases he : elemOf' P t <;> rw [he] at hc
      · cases hs : strT P t <;> rw [hs] at hc <;> cases hc
      · cases hc
  case fieldAddr t x i =>
    split at hc
    · rename_i fl hf
      cases hz : Nat.beq (szOf P fl.type) 0 <;> rw [hz] at hc <;> cases hc
    · cases hc
  case field t x i =>
    split at hc <;> cases hc
  case call c =>
    obtain ⟨callee, args, ts⟩ := c
    cases callee <;> simp only at hc <;> try (cases hc; done)
    rename_i b
    cases b <;> simp only [builtinC] at hc <;> cases hc

end Sx
end Go.Proofs.YtfdggebddcoeeaaGreatDoor
end

/-
  Operations that write: store, append, copy.
-/
noncomputable section
namespace Go.Proofs.YtfdggebddcoeeaaGreatDoor
namespace Sx
open Go Go.RowKit
variable (E : Env) (loc : Nat → Nat × Nat) (P : Program) (G : Gl)

/-- the call's own blocks lie from B on -/
def Own (lo B nx : Nat) : Prop := ∀ b, lo ≤ b → b < nx → B ≤ (loc b).1
/-- from (hp, nx, w) to (hp', nx', w'), with result v -/
structure Step (B lo nx nx' : Nat) (hp' : Tr SBlk) (w : World) (v : SV) (loc' : Nat → Nat × Nat) (w' : World) : Prop where
  le : nx ≤ nx'
  agree : ∀ b, b < nx → loc' b = loc b
  hr : HRel E loc' P nx' hp' w'
  bel : Below B w w'
  own : Own loc' lo B nx'
  wf : v.wf E nx'

theorem storeV_ok {lo B nx : Nat} {hp hp' : Tr SBlk} {w : World} (hr : HRel E loc P nx hp w) (ho : Own loc lo B nx) {x v : SV} (hv : v.wf E nx) (h : storeV lo hp x v = some hp') :
    ∃ b off cur ty, x = .ptr b off ∧ w.heap[(loc b).1]? = some (.cells cur ty (0, 0)) ∧ off + (cellsOf v).length ≤ cur.size ∧ (∀ u ∈ denL E loc (cellsOf v), u.oneCell' = true) ∧
      Step E loc P B lo nx nx hp' w (.tup []) loc (w.setRow (loc b).1 (cur.toList.take off ++ denL E loc (cellsOf v) ++ cur.toList.drop (off + (denL E loc (cellsOf v)).length)).toArray) := by
  unfold storeV at h
  cases x <;> simp only at h <;> try (cases h; done)
  rename_i b off
  cases h1 : Nat.ble lo b <;> rw [h1] at h <;> try (cases h; done)
  simp only [cond] at h
  cases hk : hp.get b with
  | none => rw [hk] at h; cases h
  | some k =>
    obtain ⟨ty, cells, ex, fr⟩ := k
    rw [hk] at h
    simp only at h
    cases fr <;> simp only at h <;> try (cases h; done)
    cases h2 : Nat.ble (Nat.add off (cellsOf v).length) cells.length <;> rw [h2] at h <;> try (cases h; done)
    cases h3 : allOne (cellsOf v) <;> rw [h3] at h <;> try (cases h; done)
    cases h
    have e2 : off + (cellsOf v).length ≤ cells.length := Nat.le_of_ble_eq_true h2
    obtain ⟨cur, fz, rest, g1, g2, g3, g4, g5⟩ := hr.rel b _ hk
    have hfz := g2 rfl
    subst hfz
    have hlen : cells.length ≤ cur.size := by
      have := congrArg List.length g3
      simp [denL_length] at this
      omega
    refine ⟨b, off, cur, ty, rfl, g1, by omega, allOne_den E loc h3, ?_⟩
    have hblt := hr.lt b _ hk
    have hset := setL_den E loc e2
    have hnew : (cur.toList.take off ++ denL E loc (cellsOf v) ++ cur.toList.drop (off + (denL E loc (cellsOf v)).length)) = denL E loc (setL cells off (cellsOf v)) ++ rest := by
      rw [hset, g3]
      simp only [denL_length]
      rw [List.take_append_of_le_length (by rw [denL_length]; omega), List.drop_append_of_le_length (by rw [denL_length]; omega)]
      simp
    refine ⟨Nat.le_refl _, fun _ _ => rfl, ?_, ?_, ?_, trivial⟩
    · refine hrel_put E loc P hr (fun _ _ => rfl) (Nat.le_refl _) (fun b' k' h => ?_) hblt ?_ (setL_wf E e2 (hr.wf b _ hk) (cellsOf_wf E hv)) (setL_one e2 (hr.one b _ hk) h3)
      · rcases Tr.get_set h with ⟨e, h2⟩ | ⟨e, h2⟩
        · exact .inl ⟨e, h2⟩
        · have hne : (loc b').1 ≠ (loc b).1 := fun he => e (hr.inj _ _ _ _ h2 hk he)
          exact .inr ⟨e, h2, setRow_other w _ _ _ hne, hne⟩
      · refine ⟨_, (0, 0), rest, setRow_heap w _ cur _ ty _ g1, fun _ => rfl, by rw [hnew], g4, fun he => ?_⟩
        obtain ⟨a1, a2, a3⟩ := g5 he
        refine ⟨?_, a2, ?_⟩
        · rw [← a1]
          simp only [List.size_toArray, hnew]
          have := congrArg List.length g3
          simp only [Array.length_toList] at this
          rw [this]
          simp [denL_length, setL_length e2]
        · simpa [setL_length e2] using a3
    · exact ⟨rfl, rfl, rfl, by simp, fun k hk' => setRow_other w _ _ _ (by have := ho b (Nat.le_of_ble_eq_true h1) hblt; omega)⟩
    · exact ho

theorem slCells_ok {nx : Nat} {hp : Tr SBlk} {w : World} (hr : HRel E loc P nx hp w) {n m : Nat} {y : SV} {new : List SV} (h : slCells hp n y = some (m, new)) :
    new.length = m * n ∧ wfL E nx new ∧ allOne new = true ∧ ((y.den E loc = .slice none 0 0 ∧ m = 0 ∧ y = .nils) ∨ ∃ ad c, y.den E loc = .slice (some ad) m c ∧ ∀ j u, (denL E loc new)[j]? = some u → w.cell? (ad.add j) = some u) := by
  unfold slCells at h
  cases y <;> simp only at h <;> try (cases h; done)
  · rename_i b off len c
    cases hk : hp.get b with
    | none => rw [hk] at h; cases h
    | some k =>
      rw [hk] at h
      simp only at h
      cases h1 : Nat.ble (Nat.add off (Nat.mul len n)) k.cells.length <;> rw [h1] at h <;> try (cases h; done)
      cases h
      have e1 : off + m * n ≤ k.cells.length := Nat.le_of_ble_eq_true h1
      refine ⟨by simp; omega, wfL_take E (wfL_drop E (hr.wf b k hk) _) _, (allOne_iff _).2 fun v hv => (allOne_iff _).1 (hr.one b k hk) v (List.mem_of_mem_drop (List.mem_of_mem_take hv)), .inr ⟨⟨(loc b).1, off, none⟩, _, rfl, fun j u hj => ?_⟩⟩
      rw [denL_eq, List.getElem?_map] at hj
      cases hx : (List.take (Nat.mul m n) (List.drop off k.cells))[j]? with
      | none => rw [hx] at hj; cases hj
      | some x =>
        rw [hx] at hj
        cases hj
        rw [add_plain']
        apply brel_cell E loc P (hr.rel b k hk)
        rw [List.getElem?_take] at hx
        split at hx
        · rwa [List.getElem?_drop] at hx
        · cases hx
  · cases h
    exact ⟨by simp, trivial, rfl, .inl ⟨rfl, rfl, rfl⟩⟩

theorem setRow_nil {w : World} {g off : Nat} {cur : Array Value} {ty : TypeId} (h : w.heap[g]? = some (.cells cur ty (0, 0))) : w.setRow g (cur.toList.take off ++ [] ++ cur.toList.drop (off + 0)).toArray = w := by
  simp only [List.append_nil, Nat.add_zero, List.take_append_drop, Array.toArray_toList]
  exact setRow_self w g cur ty (0, 0) h

theorem min_eq (m len : Nat) : (cond (Nat.ble m len) m len) = Nat.min m len := by
  cases h : Nat.ble m len
  · have : ¬ m ≤ len := fun e => by rw [Nat.ble_eq_true_of_le e] at h; cases h
    show len = min m len; omega
  · have := Nat.le_of_ble_eq_true h
    show m = min m len; omega

theorem copyV_ok {lo B nx nx' : Nat} {hp hp' : Tr SBlk} {w : World} (hr : HRel E loc P nx hp w) (ho : Own loc lo B nx) {t ty e : TypeId} (he : P.underlying t = some (.slice e)) (hs : szPos P e = true) {x y v : SV}
    (h : copyV lo hp nx (szOf P e) x y = some (v, hp', nx')) (ts : Array TypeId) (hts : ts[0]? = some t) :
    ∃ w', Step E loc P B lo nx nx' hp' w v loc w' ∧ (Builtin.copy_ ts ty #[x.den E loc, y.den E loc]).run P w = .ok (v.den E loc) w' := by
  unfold copyV at h
  cases x <;> simp only at h <;> try (cases h; done)
  rename_i b off len c
  cases hc : slCells hp (szOf P e) y with
  | none => rw [hc] at h; cases h
  | some mn =>
    obtain ⟨m, new⟩ := mn
    rw [hc] at h
    simp only at h
    cases hmb : Nat.ble m many <;> rw [hmb] at h <;> try (cases h; done)
    have hmm := Nat.le_of_ble_eq_true hmb
    rw [Bool.cond_true, min_eq] at h
    split at h
    · rename_i hp1 hst
      cases h
      obtain ⟨c1, c2, c3, c4⟩ := slCells_ok E loc P hr hc
      obtain ⟨b', off', cur, ty', q1, q2, q3, q4, q5⟩ := storeV_ok E loc P hr ho (v := .agg (new.take (Nat.mul (Nat.min m len) (szOf P e)))) (wfL_take E c2 _) hst
      cases q1
      obtain ⟨i, z, i1, i2, i3, i4, i5, i6⟩ := szPos_ok P hs
      simp only [cellsOf] at q3 q4 q5
      have hnn : Nat.min m len ≤ m := Nat.min_le_left _ _
      have hw : inR .i64 ((Nat.min m len : Nat) : Int) := by
        simp only [many] at hmm
        simp [inR, IntKind.min, IntKind.max, IntKind.signed, IntKind.bits]
        omega
      refine ⟨_, ⟨q5.le, q5.agree, q5.hr, q5.bel, q5.own, hw⟩, ?_⟩
      have hgo : goInt (Nat.min m len) = .int .i64 ((Nat.min m len : Nat) : Int) := by simp [goInt]
      have hst := run_storeCells_at P (loc b).1 off ty' (denL E loc (new.take (Nat.mul (Nat.min m len) (szOf P e)))) 0 cur w q2 (by rw [denL_length]; simpa using q3) q4
      simp only [Nat.add_zero] at hst
      have hsz := szOf_run' P i1 w
      have hfirst : ∀ d : Value, d = y.den E loc → (Builtin.firstCells (szOf P e) (Nat.min m len) d).run P w = .ok (denL E loc (new.take (Nat.mul (Nat.min m len) (szOf P e)))).toArray w ∧ (Builtin.lenOf d).run P w = .ok m w := by
        intro d hd
        subst hd
        rcases c4 with ⟨d1, d2, d3⟩ | ⟨ad, cc, d1, d2⟩
        · have : new = [] := List.eq_nil_of_length_eq_zero (by rw [c1, d2]; simp)
          subst this
          rw [d1]
          exact ⟨by simp [Builtin.firstCells, denL], by simp [Builtin.lenOf, d2]⟩
        · rw [d1]
          refine ⟨?_, by simp [Builtin.lenOf]⟩
          refine run_firstCells_some w _ _ ad m cc _ ?_ ?_
          · rw [denL_length, List.length_take, c1]
            exact Nat.min_eq_left (Nat.mul_le_mul_right _ hnn)
          · intro j u hj
            rw [denL_eq, List.map_take, List.getElem?_take] at hj
            split at hj
            · rw [← denL_eq] at hj; exact d2 j u hj
            · cases hj
      obtain ⟨f1, f2⟩ := hfirst _ rfl
      have ha : (#[Value.slice (some ⟨(loc b).1, off, none⟩) len (c.den loc b), y.den E loc] : Array Value)[0]? = some (Value.slice (some ⟨(loc b).1, off, none⟩) len (c.den loc b)) := rfl
      have hb : (#[Value.slice (some ⟨(loc b).1, off, none⟩) len (c.den loc b), y.den E loc] : Array Value)[1]? = some (y.den E loc) := rfl
      simp only [Builtin.copy_, hts, ha, hb, SV.den, Sem.run_bind, run_underlying he, Result.andThen_ok, f2, hsz, f1, hst, Sem.run_pure, hgo, cellsOf, SE.den]
      rfl
    · cases h

end Sx
end Go.Proofs.YtfdggebddcoeeaaGreatDoor
end

/-
  Append; and all operations that write in one statement.
-/
noncomputable section
namespace Go.Proofs.YtfdggebddcoeeaaGreatDoor
namespace Sx
open Go Go.RowKit
variable (E : Env) (loc : Nat → Nat × Nat) (P : Program) (G : Gl)

/-- a new row that append left -/
theorem step_row {lo B nx : Nat} {hp hp1 : Tr SBlk} {w w' : World} (hr : HRel E loc P nx hp w) (ho : Own loc lo B nx) {g c len m : Nat} {e : TypeId} {cs : List SV} {cur : Array Value} {rest : List Value}
    (hsub : ∀ b k', hp1.get b = some k' → hp.get b = some k' ∧ w'.heap[(loc b).1]? = w.heap[(loc b).1]? ∧ (loc b).1 ≠ g)
    (hbel : Below B w w') (hg : w'.heap[g]? = some (.cells cur e (0, 0))) (hB : B ≤ g) (hcur : cur.toList = denL E loc cs ++ rest) (hsz : cur.size = c * szOf P e) (hc : c ≤ maxLen)
    (hlen : cs.length = (len + m) * szOf P e) (hw : wfL E nx cs) (h1 : allOne cs = true) :
    Step E loc P B lo nx (nx + 1) (hp1.set nx ⟨e, cs, false, false⟩) w (.sl nx 0 (len + m) (.gr 0)) (upd loc nx (g, c)) w' := by
  refine ⟨Nat.le_succ nx, fun b hb => upd_lt loc _ hb, ?_, hbel, ?_, Nat.lt_succ_self nx⟩
  · refine hrel_put E loc P hr (loc' := upd loc nx (g, c)) (fun b hb => upd_lt loc _ hb) (Nat.le_succ nx) (fun b k' h => ?_) (Nat.lt_succ_self nx) ?_ (wfL_mono E (Nat.le_succ nx) _ hw) h1
    · rcases Tr.get_set h with ⟨e, h2⟩ | ⟨e, h2⟩
      · exact .inl ⟨e, h2⟩
      · obtain ⟨a1, a2, a3⟩ := hsub b k' h2
        exact .inr ⟨e, a1, a2, by rw [upd_self]; exact a3⟩
    · refine ⟨cur, (0, 0), rest, by rw [upd_self]; exact hg, fun _ => rfl, ?_, fun h => (by cases h), fun _ => ⟨by rw [upd_self]; exact hsz, by rw [upd_self]; exact hc, ⟨len + m, hlen⟩⟩⟩
      rw [denL_congr E loc (fun b hb => upd_lt loc _ hb) _ hw]; exact hcur
  · intro b hlo hb
    by_cases e : b = nx
    · subst e; rw [upd_self]; exact hB
    · rw [upd_lt loc _ (by omega)]
      exact ho b hlo (by omega)
theorem den_new (g c len : Nat) (nx : Nat) : (SV.sl nx 0 len (.gr 0)).den E (upd loc nx (g, c)) = .slice (some ⟨g, 0, none⟩) len c := by
  simp [SV.den, Cap.den, upd_self]
theorem zc_size (z : Value) (n : Nat) : (Builtin.zeroCells z.cells n).size = n * z.cells.size := by simp [Builtin.zeroCells]

theorem appV_ok {lo B nx nx' : Nat} {hp hp' : Tr SBlk} {w : World} (hr : HRel E loc P nx hp w) (ho : Own loc lo B nx) (hB : B ≤ w.heap.size) {t e : TypeId} (ty : TypeId) (he : P.underlying t = some (.slice e)) (hs : szPos P e = true) {x y v : SV}
    (h : appV lo hp nx e (szOf P e) x y = some (v, hp', nx')) :
    ∃ w' loc', Step E loc P B lo nx nx' hp' w v loc' w' ∧ (Builtin.append_ #[t, t] ty #[x.den E loc, y.den E loc]).run P w = .ok (v.den E loc') w' := by
  unfold appV at h
  cases hc : slCells hp (szOf P e) y with
  | none => rw [hc] at h; cases h
  | some mn =>
    obtain ⟨m, new⟩ := mn
    rw [hc] at h
    simp only at h
    obtain ⟨c1, c2, c3, c4⟩ := slCells_ok E loc P hr hc
    obtain ⟨i, z, i1, i2, i3, i4, i5, i6⟩ := szPos_ok P hs
    have hbytes : ∀ n, n ≤ many → n * i.bytes ≤ 67108864 := fun n hn => by
      have : n * i.bytes ≤ 1048576 * 64 := Nat.mul_le_mul hn i6
      omega
    cases x <;> simp only at h <;> try (cases h; done)
    case nils =>
      cases m with
      | zero =>
        simp only at h
        cases h
        refine ⟨w, loc, ⟨Nat.le_refl _, fun _ _ => rfl, hr, Below.refl _ w, ho, trivial⟩, ?_⟩
        rcases c4 with ⟨d1, d2, d3⟩ | ⟨ad, cc, d1, d2⟩
        · rw [d1]
          simp [SV.den, Builtin.append_, run_underlying he, sizeOf, typeInfo, i1, Builtin.lenOf, Builtin.firstCells]
        · rw [d1]
          simp [SV.den, Builtin.append_, run_underlying he, sizeOf, typeInfo, i1, Builtin.lenOf, Builtin.firstCells, loadCells, loadCellsFrom]
      | succ m =>
        simp only at h
        cases hm : Nat.ble (m + 1) many <;> rw [hm] at h <;> try (cases h; done)
        cases h
        have hmm : m + 1 ≤ many := Nat.le_of_ble_eq_true hm
        have hmm' : m + 1 ≤ 1048576 := hmm
        rcases c4 with ⟨d1, d2, d3⟩ | ⟨ad, cc, d1, d2⟩
        · cases d2
        · have hby := hbytes _ hmm
          have hrun := run_append_nil (P := P) w t ty e i z he i1 i2 ad (m + 1) cc (denL E loc new) (by rw [denL_length, c1, i4]) d2 (by omega) (by omega) (by omega)
          refine ⟨_, upd loc nx (w.heap.size, grownCap w (m + 1) 0 e), ?_, by rw [d1, den_new]; exact hrun⟩
          · have := step_row E loc P (g := w.heap.size) (c := grownCap w (m + 1) 0 e) (len := 0) (m := m + 1) (hp1 := hp) (e := e) (cs := new) (cur := (denL E loc new).toArray ++ Builtin.zeroCells z.cells (grownCap w (m + 1) 0 e - (m + 1)))
              (rest := (Builtin.zeroCells z.cells (grownCap w (m + 1) 0 e - (m + 1))).toList)
              (w' := w.drew.alloc (.cells ((denL E loc new).toArray ++ Builtin.zeroCells z.cells (grownCap w (m + 1) 0 e - (m + 1))) e)) hr ho (fun b k' h => ⟨h, ?_, ?_⟩) ?_ ?_ hB ?_ ?_ ?_ ?_ c2 c3
            · rw [Nat.zero_add] at this; exact this
            · exact heap_alloc_old w.drew _ _ (hrel_lt E loc P hr h)
            · have := hrel_lt E loc P hr h; omega
            · exact ((Below.refl _ w).drew).alloc hB _
            · exact heap_alloc_new w.drew _
            · simp
            · have hge := grownCap_ge w (m + 1) 0 e
              rw [Array.size_append, List.size_toArray, denL_length, zc_size, i3, c1, i4, ← Nat.add_mul]
              congr 1; omega
            · exact grownCap_le_maxLen w (m + 1) 0 e (by simp [maxLen]; omega)
            · rw [c1, Nat.zero_add]
    case sl b off len c =>
      cases h1 : Nat.ble lo b <;> rw [h1] at h <;> try (cases h; done)
      cases h2 : Nat.beq off 0 <;> rw [h2] at h <;> try (cases h; done)
      cases h3 : Nat.ble (Nat.add len m) many <;> rw [h3] at h <;> try (cases h; done)
      simp only [Bool.cond_true] at h
      cases hk : hp.get b with
      | none => rw [hk] at h; cases h
      | some k =>
        obtain ⟨ty', cells, ex, fr⟩ := k
        rw [hk] at h
        simp only at h
        cases fr <;> try (cases h; done)
        simp only [Bool.cond_false] at h
        cases h4 : Nat.beq ty' e <;> rw [h4] at h <;> try (cases h; done)
        have e4 := Nat.eq_of_beq_eq_true h4
        subst e4
        have e2 := Nat.eq_of_beq_eq_true h2
        subst e2
        have e3 : len + m ≤ 1048576 := Nat.le_of_ble_eq_true h3
        have hlo := Nat.le_of_ble_eq_true h1
        obtain ⟨cur, fz, rest, g1, g2, g3, g4, g5⟩ := hr.rel b _ hk
        have hfz := g2 rfl
        subst hfz
        simp only at g1 g3 g4 g5
        have hown := ho b hlo (hr.lt b _ hk)
        -- what both kinds of capacity give
        have key : ∃ olds, v = .sl nx 0 (len + m) (.gr 0) ∧ hp' = (hp.del b).set nx ⟨ty', olds ++ new, false, false⟩ ∧ nx' = nx + 1 ∧ olds.length = len * szOf P ty' ∧ (∃ r', cur.toList = denL E loc olds ++ r') ∧
            len ≤ c.den loc b ∧ c.den loc b ≤ maxLen ∧ cur.size = c.den loc b * szOf P ty' ∧ wfL E nx olds ∧ allOne olds = true := by
          cases c with
          | gr d =>
            simp only [Bool.cond_true] at h
            cases h5 : Nat.beq d 0 <;> rw [h5] at h <;> try (cases h; done)
            cases ex <;> try (cases h; done)
            simp only [Bool.cond_true, Bool.cond_false] at h
            cases h6 : Nat.beq cells.length (Nat.mul len (szOf P ty')) <;> rw [h6] at h <;> try (cases h; done)
            cases h
            have e5 := Nat.eq_of_beq_eq_true h5
            subst e5
            have e6 : cells.length = len * szOf P ty' := Nat.eq_of_beq_eq_true h6
            obtain ⟨k1, k2, k3⟩ := g5 rfl
            refine ⟨cells, rfl, rfl, rfl, e6, ⟨rest, g3⟩, ?_, k2, k1, hr.wf b _ hk, hr.one b _ hk⟩
            have := congrArg List.length g3
            simp only [Array.length_toList, List.length_append, denL_length] at this
            have h7 : len * szOf P ty' ≤ (loc b).2 * szOf P ty' := by rw [← k1, ← e6]; omega
            exact Nat.le_of_mul_le_mul_right h7 (by omega)
          | ex c =>
            simp only [Bool.cond_true] at h
            cases ex <;> try (cases h; done)
            simp only [Bool.cond_true] at h
            cases h6 : Nat.beq cells.length (Nat.mul c (szOf P ty')) <;> rw [h6] at h <;> try (cases h; done)
            cases h7 : Nat.ble len c <;> rw [h7] at h <;> try (cases h; done)
            cases h8 : Nat.ble c many <;> rw [h8] at h <;> try (cases h; done)
            cases h
            have e6 : cells.length = c * szOf P ty' := Nat.eq_of_beq_eq_true h6
            have e7 : len ≤ c := Nat.le_of_ble_eq_true h7
            have e8 : c ≤ 1048576 := Nat.le_of_ble_eq_true h8
            have hr0 := g4 rfl
            subst hr0
            have hle : len * szOf P ty' ≤ cells.length := by rw [e6]; exact Nat.mul_le_mul_right _ e7
            refine ⟨cells.take (len * szOf P ty'), rfl, rfl, rfl, by simp; omega, ⟨denL E loc (cells.drop (len * szOf P ty')), ?_⟩, e7, by simp [Cap.den, maxLen]; omega, ?_, wfL_take E (hr.wf b _ hk) _, ?_⟩
            · rw [g3, ← denL_append, List.take_append_drop, List.append_nil]
            · have := congrArg List.length g3
              simp only [Array.length_toList, List.length_append, denL_length, List.length_nil, Nat.add_zero] at this
              rw [this, e6]; rfl
            · exact (allOne_iff _).2 fun v hv => (allOne_iff _).1 (hr.one b _ hk) v (List.mem_of_mem_take hv)
        obtain ⟨olds, rfl, rfl, rfl, o1, ⟨r', o2⟩, o3, o4, o5, o6, o7⟩ := key
        generalize hcap : c.den loc b = cap at *
        have hdel : ∀ b' k', (hp.del b).get b' = some k' → hp.get b' = some k' ∧ (loc b').1 ≠ (loc b).1 ∧ (loc b').1 < w.heap.size := fun b' k' h => by
          obtain ⟨a1, a2⟩ := Tr.get_del h
          exact ⟨a2, fun he => a1 (hr.inj _ _ _ _ a2 hk he), hrel_lt E loc P hr a2⟩
        have hx : (SV.sl b 0 len c).den E loc = .slice (some ⟨(loc b).1, 0, none⟩) len cap := by simp [SV.den, hcap]
        have hln : (olds ++ new).length = (len + m) * szOf P ty' := by rw [List.length_append, o1, c1, Nat.add_mul]
        have hwf := wfL_append E o6 c2
        have hone := allOne_append.2 ⟨o7, c3⟩
        rcases c4 with ⟨d1, d2, d3⟩ | ⟨ad, cc, d1, d2⟩
        · subst d2
          have hnew : new = [] := List.eq_nil_of_length_eq_zero (by rw [c1]; simp)
          subst hnew
          refine ⟨w, upd loc nx ((loc b).1, cap), step_row E loc P hr ho (fun b' k' h => ⟨(hdel b' k' h).1, rfl, (hdel b' k' h).2.1⟩) (Below.refl _ w) g1 hown (rest := r') (by rw [List.append_nil]; exact o2) o5 o4 hln hwf hone, ?_⟩
          rw [den_new, hx, d1]
          simp [Builtin.append_, run_underlying he, sizeOf, typeInfo, i1, Builtin.lenOf, Builtin.firstCells, o3, storeCells]
        · by_cases hroom : len + m ≤ cap
          · have hfit : len * i.size + (denL E loc new).length ≤ cur.size := by rw [denL_length, c1, o5, i4, ← Nat.add_mul]; exact Nat.mul_le_mul_right _ hroom
            have hrun := run_append_room (P := P) w t ty ty' i he i1 (loc b).1 len cap cur g1 ad m cc (denL E loc new) (by rw [denL_length, c1, i4]) d2 (allOne_den E loc c3) hroom hfit
            have htake : cur.toList.take (len * i.size) = denL E loc olds := by
              rw [o2, ← i4, ← o1, ← denL_length E loc olds]
              exact List.take_left
            refine ⟨w.setRow (loc b).1 (cur.toList.take (len * i.size) ++ denL E loc new ++ cur.toList.drop (len * i.size + (denL E loc new).length)).toArray, upd loc nx ((loc b).1, cap), ?_, by rw [den_new, hx, d1]; exact hrun⟩
            refine step_row E loc P hr ho (fun b' k' h => ⟨(hdel b' k' h).1, setRow_other w _ _ _ (hdel b' k' h).2.1, (hdel b' k' h).2.1⟩) ?_ (setRow_heap w _ cur _ ty' _ g1) hown (rest := cur.toList.drop (len * i.size + (denL E loc new).length)) ?_ ?_ o4 hln hwf hone
            · exact ⟨rfl, rfl, rfl, by simp, fun k hk' => setRow_other w _ _ _ (by omega)⟩
            · rw [htake, denL_append]
            · simp only [List.size_toArray, List.length_append, List.length_take, List.length_drop, Array.length_toList]
              rw [← o5]
              omega
          · have holds : ∀ j u, (denL E loc olds)[j]? = some u → w.cell? ((⟨(loc b).1, 0, none⟩ : Addr).add j) = some u := fun j u hu => by
              rw [add_plain', cell_of_row w _ _ cur ty' (0, 0) g1]
              have : cur.toList[0 + j]? = some u := by
                rw [o2, Nat.zero_add, List.getElem?_append_left (List.getElem?_eq_some_iff.1 hu).1]; exact hu
              simpa using this
            have hby := hbytes _ (show len + m ≤ many from e3)
            have hrun := run_append_grow (P := P) w t ty ty' i z he i1 i2 ⟨(loc b).1, 0, none⟩ len cap (denL E loc olds) (by rw [denL_length, o1, i4]) holds ad m cc (denL E loc new) (by rw [denL_length, c1, i4]) d2 (by omega) (by omega) (growslice_fits (by omega) (by omega))
            refine ⟨w.drew.alloc (.cells ((denL E loc olds).toArray ++ (denL E loc new).toArray ++ Builtin.zeroCells z.cells (grownCap w (len + m) cap ty' - (len + m))) ty'), upd loc nx (w.heap.size, grownCap w (len + m) cap ty'), ?_, by rw [den_new, hx, d1]; exact hrun⟩
            refine step_row E loc P hr ho (fun b' k' h => ⟨(hdel b' k' h).1, heap_alloc_old w.drew _ _ (hdel b' k' h).2.2, by have := (hdel b' k' h).2.2; omega⟩) (((Below.refl _ w).drew).alloc hB _) (heap_alloc_new w.drew _) hB
              (rest := (Builtin.zeroCells z.cells (grownCap w (len + m) cap ty' - (len + m))).toList) ?_ ?_ (grownCap_le_maxLen w _ _ _ (by simp [maxLen]; omega)) hln hwf hone
            · simp [denL_append]
            · have hge := grownCap_ge w (len + m) cap ty'
              simp only [Array.size_append, List.size_toArray, denL_length, zc_size, i3, c1, o1, i4, ← Nat.add_mul]
              congr 1; omega

end Sx
end Go.Proofs.YtfdggebddcoeeaaGreatDoor
end
