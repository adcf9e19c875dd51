/-
  Symbolic whole numbers: expressions, what they stand for, and constructors that simplify; each constructor is proved to stand for what its plain form stands for.
-/
import Derived.Orders
import Derived.Below
set_option linter.unusedVariables false
set_option linter.unusedSimpArgs false
namespace Go.Proofs.YtfdggebddcoeeaaGreatDoor
namespace Sx
open Go

inductive SE where
  | lit (n : Int)
  | var (i : Nat)
  | add (a b : SE)
  | sub (a b : SE)
  | mul (a b : SE)
  | tdiv (a b : SE)
  | tmod (a b : SE)
  | shr (a n : SE)
  | shl (a n : SE)
  | md (a : SE) (b : Nat)
  | wrap (k : IntKind) (a : SE)
  | bit (o : BinOp) (k : IntKind) (a b : SE)
  | cat (x : SE) (b : Nat) (r : SE)
  | lt (a b : SE)
  | eq (a b : SE)
  | ite (c a b : SE)
  | f1 (c : Nat) (a : SE)
  | f2 (c : Nat) (a b : SE)

/-- what the named functions stand for, and the variables -/
structure Env where
  f1 : Nat → Int → Int
  f2 : Nat → Int → Int → Int
  va : Nat → Int

def bitsI (o : BinOp) (k : IntKind) (x y : Int) : Int :=
  k.wrap (match o with
  | .and => (BitVec.ofInt k.bits x &&& BitVec.ofInt k.bits y).toNat
  | .or => (BitVec.ofInt k.bits x ||| BitVec.ofInt k.bits y).toNat
  | .xor => (BitVec.ofInt k.bits x ^^^ BitVec.ofInt k.bits y).toNat
  | _ => (BitVec.ofInt k.bits x &&& ~~~BitVec.ofInt k.bits y).toNat)

def SE.den (E : Env) : SE → Int
  | .lit n => n
  | .var i => E.va i
  | .add a b => a.den E + b.den E
  | .sub a b => a.den E - b.den E
  | .mul a b => a.den E * b.den E
  | .tdiv a b => (a.den E).tdiv (b.den E)
  | .tmod a b => (a.den E).tmod (b.den E)
  | .shr a n => a.den E / 2 ^ (n.den E).toNat
  | .shl a n => a.den E * 2 ^ (n.den E).toNat
  | .md a b => a.den E % 2 ^ b
  | .wrap k a => k.wrap (a.den E)
  | .bit o k a b => bitsI o k (a.den E) (b.den E)
  | .cat x b r => x.den E % 2 ^ b + 2 ^ b * r.den E
  | .lt a b => if a.den E < b.den E then 1 else 0
  | .eq a b => if a.den E = b.den E then 1 else 0
  | .ite c a b => if c.den E = 0 then b.den E else a.den E
  | .f1 c a => E.f1 c (a.den E) % 2 ^ (c % 100)
  | .f2 c a b => E.f2 c (a.den E) (b.den E) % 2 ^ (c % 100)

/-! whole numbers in the kernel's own words -/
def intEq : Int → Int → Bool
  | .ofNat a, .ofNat b => Nat.beq a b
  | .negSucc a, .negSucc b => Nat.beq a b
  | _, _ => false
theorem intEq_iff (a b : Int) : intEq a b = true ↔ a = b := by
  cases a <;> cases b <;> simp [intEq] <;> omega
def intLt : Int → Int → Bool
  | .ofNat a, .ofNat b => Nat.blt a b
  | .negSucc _, .ofNat _ => true
  | .ofNat _, .negSucc _ => false
  | .negSucc a, .negSucc b => Nat.blt b a
theorem intLt_iff (a b : Int) : intLt a b = true ↔ a < b := by
  cases a <;> cases b <;> simp [intLt, Nat.blt_eq] <;> omega
def int0 : Int → Bool
  | .ofNat n => Nat.beq n 0
  | .negSucc _ => false
theorem int0_iff (a : Int) : int0 a = true ↔ a = 0 := by
  cases a <;> simp [int0]
def addI : Int → Int → Int
  | .ofNat a, .ofNat b => .ofNat (Nat.add a b)
  | a, b => a + b
theorem addI_eq (a b : Int) : addI a b = a + b := by
  cases a <;> cases b <;> rfl

def SE.beq : SE → SE → Bool
  | .lit a, .lit b => intEq a b
  | .var a, .var b => Nat.beq a b
  | .add a b, .add c d => cond (a.beq c) (b.beq d) false
  | .sub a b, .sub c d => cond (a.beq c) (b.beq d) false
  | .mul a b, .mul c d => cond (a.beq c) (b.beq d) false
  | .tdiv a b, .tdiv c d => cond (a.beq c) (b.beq d) false
  | .tmod a b, .tmod c d => cond (a.beq c) (b.beq d) false
  | .shr a b, .shr c d => cond (a.beq c) (b.beq d) false
  | .shl a b, .shl c d => cond (a.beq c) (b.beq d) false
  | .md a b, .md c d => cond (Nat.beq b d) (a.beq c) false
  | .wrap k a, .wrap l c => cond (decide (k = l)) (a.beq c) false
  | .bit o k a b, .bit p l c d => cond (decide (o = p)) (cond (decide (k = l)) (cond (a.beq c) (b.beq d) false) false) false
  | .cat a n b, .cat c m d => cond (Nat.beq n m) (cond (a.beq c) (b.beq d) false) false
  | .lt a b, .lt c d => cond (a.beq c) (b.beq d) false
  | .eq a b, .eq c d => cond (a.beq c) (b.beq d) false
  | .ite x a b, .ite y c d => cond (x.beq y) (cond (a.beq c) (b.beq d) false) false
  | .f1 n a, .f1 m c => cond (Nat.beq n m) (a.beq c) false
  | .f2 n a b, .f2 m c d => cond (Nat.beq n m) (cond (a.beq c) (b.beq d) false) false
  | _, _ => false
theorem SE.beq_eq : ∀ {a b : SE}, a.beq b = true → a = b := by
  intro a
  induction a <;> intro b h <;> cases b <;> simp only [SE.beq, Bool.false_eq_true] at h
  all_goals
    simp only [Bool.cond_false_right, Bool.and_eq_true, decide_eq_true_eq, Nat.beq_eq, intEq_iff] at h
    grind

/-! bounds: 'ub e = some n' says 0 ≤ e < 2^n -/
def ub : SE → Option Nat
  | .lit n => match n with
    | .ofNat n => some (Nat.succ (Nat.log2 n))
    | .negSucc _ => none
  | .md _ b => some b
  | .cat _ b r => match ub r with
    | some n => some (Nat.add b n)
    | none => none
  | .lt _ _ => some 1
  | .eq _ _ => some 1
  | .shl a n => match n with
    | .lit m => match m with
      | .ofNat m => match ub a with
        | some l => some (Nat.add l m)
        | none => none
      | .negSucc _ => none
    | _ => none
  | .shr a n => match n with
    | .lit m => match m with
      | .ofNat m => match ub a with
        | some l => some (Nat.sub l m)
        | none => none
      | .negSucc _ => none
    | _ => none
  | .ite _ a b => match ub a with
    | some m => match ub b with
      | some n => some (cond (Nat.ble m n) n m)
      | none => none
    | none => none
  | .f1 c _ => some (Nat.mod c 100)
  | .f2 c _ _ => some (Nat.mod c 100)
  | .wrap k _ => match k with
    | .u64 => some 64
    | .u32 => some 32
    | .u16 => some 16
    | .u8 => some 8
    | _ => none
  | .bit _ k _ _ => match k with
    | .u64 => some 64
    | .u32 => some 32
    | .u16 => some 16
    | .u8 => some 8
    | _ => none
  | _ => none

variable (E : Env)
theorem two_pow_pos (n : Nat) : (0 : Int) < 2 ^ n := Int.pow_pos (by decide)
theorem two_pow_mono {m n : Nat} (h : m ≤ n) : (2 : Int) ^ m ≤ 2 ^ n := by
  have : (2 : Nat) ^ m ≤ 2 ^ n := Nat.pow_le_pow_right (by decide) h
  exact_mod_cast this
theorem emod_range (x : Int) (n : Nat) : 0 ≤ x % 2 ^ n ∧ x % 2 ^ n < 2 ^ n :=
  ⟨Int.emod_nonneg _ (by have := two_pow_pos n; omega), Int.emod_lt_of_pos _ (two_pow_pos n)⟩
theorem wrap_unsigned {k : IntKind} (h : k.signed = false) (x : Int) : k.wrap x = x % 2 ^ k.bits := by
  simp [IntKind.wrap, h]
theorem ub_ok : ∀ {e : SE} {n : Nat}, ub e = some n → 0 ≤ e.den E ∧ e.den E < 2 ^ n := by
  intro e
  induction e <;> intro n h <;> simp only [ub] at h <;> try (cases h; done)
  case lit x =>
    cases x with
    | ofNat m =>
      simp only [Option.some.injEq] at h
      subst h
      have := @Nat.lt_log2_self m
      simp only [SE.den]
      refine ⟨by simp, ?_⟩
      have h2 : (m : Int) < ((2 ^ (m.log2 + 1) : Nat) : Int) := by exact_mod_cast this
      simpa using h2
    | negSucc m => cases h
  case md a b ih =>
    cases h; exact emod_range _ _
  case cat x b r ihx ihr =>
    cases hr : ub r with
    | none => rw [hr] at h; cases h
    | some m =>
      rw [hr] at h
      cases h
      obtain ⟨h1, h2⟩ := ihr hr
      obtain ⟨h3, h4⟩ := emod_range (x.den E) b
      have hb := two_pow_pos b
      simp only [SE.den]
      refine ⟨by have := Int.mul_nonneg (Int.le_of_lt hb) h1; omega, ?_⟩
      have e1 : (2 : Int) ^ (b.add m) = 2 ^ b * 2 ^ m := Int.pow_add ..
      have e2 : (2 : Int) ^ b * (r.den E + 1) ≤ 2 ^ b * 2 ^ m := Int.mul_le_mul_of_nonneg_left (by omega) (Int.le_of_lt hb)
      rw [Int.mul_add] at e2
      omega
  case lt a b _ _ => cases h; simp only [SE.den]; split <;> simp
  case eq a b _ _ => cases h; simp only [SE.den]; split <;> simp
  case shl a n' iha ihn =>
    split at h
    · split at h
      · cases ha : ub a with
        | none => simp [ha] at h
        | some l =>
          simp only [ha, Option.some.injEq] at h
          subst h
          obtain ⟨h1, h2⟩ := iha ha
          rename_i m
          simp only [SE.den, Int.toNat_natCast, Int.ofNat_eq_natCast]
          have hb := two_pow_pos m
          refine ⟨Int.mul_nonneg h1 (Int.le_of_lt hb), ?_⟩
          have e1 : (2 : Int) ^ (l.add m) = 2 ^ l * 2 ^ m := Int.pow_add ..
          rw [e1]
          exact Int.mul_lt_mul_of_pos_right h2 hb
      · cases h
    · cases h
  case shr a n' iha ihn =>
    split at h
    · split at h
      · cases ha : ub a with
        | none => simp [ha] at h
        | some l =>
          simp only [ha, Option.some.injEq] at h
          subst h
          obtain ⟨h1, h2⟩ := iha ha
          rename_i m
          simp only [SE.den, Int.toNat_natCast, Int.ofNat_eq_natCast]
          have hb := two_pow_pos m
          refine ⟨Int.ediv_nonneg h1 (Int.le_of_lt hb), ?_⟩
          apply Int.ediv_lt_of_lt_mul hb
          refine Int.lt_of_lt_of_le h2 ?_
          have e1 : (2 : Int) ^ (l.sub m) * 2 ^ m = 2 ^ (l - m + m) := (Int.pow_add ..).symm
          rw [e1]
          exact two_pow_mono (by omega)
      · cases h
    · cases h
  case ite c a b ihc iha ihb =>
    cases ha : ub a with
    | none => simp [ha] at h
    | some l =>
      cases hb : ub b with
      | none => simp [ha, hb] at h
      | some m =>
        simp only [ha, hb, Option.some.injEq] at h
        obtain ⟨a1, a2⟩ := iha ha
        obtain ⟨b1, b2⟩ := ihb hb
        simp only [SE.den]
        have hl : l ≤ n ∧ m ≤ n := by
          cases hc : Nat.ble l m <;> rw [hc] at h <;> simp only [cond] at h
          · have : ¬ l ≤ m := by intro hh; rw [Nat.ble_eq_true_of_le hh] at hc; cases hc
            omega
          · have := Nat.le_of_ble_eq_true hc; omega
        split
        · exact ⟨b1, Int.lt_of_lt_of_le b2 (two_pow_mono hl.2)⟩
        · exact ⟨a1, Int.lt_of_lt_of_le a2 (two_pow_mono hl.1)⟩
  case f1 c a ih => cases h; exact emod_range _ _
  case f2 c a b _ _ => cases h; exact emod_range _ _
  case wrap k a ih =>
    split at h <;> cases h <;> simp only [SE.den] <;> rw [wrap_unsigned rfl] <;> exact emod_range _ _
  case bit o k a b _ _ =>
    split at h <;> cases h <;> simp only [SE.den, bitsI] <;> rw [wrap_unsigned rfl] <;> exact emod_range _ _

/-! constructors that simplify -/
def leO (a : Option Nat) (n : Nat) : Bool := match a with
  | some m => Nat.ble m n
  | none => false
theorem leO_ok {e : SE} {n : Nat} (h : leO (ub e) n = true) : 0 ≤ e.den E ∧ e.den E < 2 ^ n := by
  unfold leO at h
  split at h
  · rename_i m hm
    obtain ⟨h1, h2⟩ := ub_ok E hm
    exact ⟨h1, Int.lt_of_lt_of_le h2 (two_pow_mono (Nat.le_of_ble_eq_true h))⟩
  · cases h
theorem emod_small {x : Int} {n : Nat} (h : 0 ≤ x ∧ x < 2 ^ n) : x % 2 ^ n = x := Int.emod_eq_of_lt h.1 h.2
theorem emod_emod_pow (x : Int) {m n : Nat} (h : m ≤ n) : x % 2 ^ n % 2 ^ m = x % 2 ^ m := by
  apply Int.emod_emod_of_dvd
  exact ⟨2 ^ (n - m), by rw [← Int.pow_add]; congr 1; omega⟩
theorem emod_emod_pow' (x : Int) {m n : Nat} (h : n ≤ m) : x % 2 ^ n % 2 ^ m = x % 2 ^ n := by
  have := emod_range x n
  exact emod_small ⟨this.1, Int.lt_of_lt_of_le this.2 (two_pow_mono h)⟩
theorem cat_emod_low (x r : Int) {b c : Nat} (h : b ≤ c) : (x % 2 ^ c + 2 ^ c * r) % 2 ^ b = x % 2 ^ b := by
  have e : (2 : Int) ^ c = 2 ^ b * 2 ^ (c - b) := by rw [← Int.pow_add]; congr 1; omega
  rw [show (2 : Int) ^ c * r = 2 ^ b * (2 ^ (c - b) * r) by rw [e, Int.mul_assoc], Int.add_mul_emod_self_left, emod_emod_pow x h]
theorem cat_emod_high (x r : Int) {b c : Nat} (h : c ≤ b) : (x % 2 ^ c + 2 ^ c * r) % 2 ^ b = x % 2 ^ c + 2 ^ c * (r % 2 ^ (b - c)) := by
  have e : (2 : Int) ^ b = 2 ^ c * 2 ^ (b - c) := by rw [← Int.pow_add]; congr 1; omega
  have h1 := emod_range x c
  have h2 := emod_range r (b - c)
  have hc := two_pow_pos c
  have hr : r = r % 2 ^ (b - c) + 2 ^ (b - c) * (r / 2 ^ (b - c)) := (Int.emod_add_mul_ediv r _).symm
  have h3 : x % 2 ^ c + 2 ^ c * r = (x % 2 ^ c + 2 ^ c * (r % 2 ^ (b - c))) + 2 ^ b * (r / 2 ^ (b - c)) := by
    conv => lhs; rw [hr]
    rw [Int.mul_add, e, Int.mul_assoc, Int.add_assoc]
  rw [h3, Int.add_mul_emod_self_left]
  apply Int.emod_eq_of_lt
  · have := Int.mul_nonneg (Int.le_of_lt hc) h2.1; omega
  · have : (2 : Int) ^ c * (r % 2 ^ (b - c) + 1) ≤ 2 ^ c * 2 ^ (b - c) := Int.mul_le_mul_of_nonneg_left (by omega) (Int.le_of_lt hc)
    rw [Int.mul_add] at this
    omega
theorem cat_ediv (x r : Int) {b n : Nat} (h : b ≤ n) : (x % 2 ^ b + 2 ^ b * r) / 2 ^ n = r / 2 ^ (n - b) := by
  have e : (2 : Int) ^ n = 2 ^ b * 2 ^ (n - b) := by rw [← Int.pow_add]; congr 1; omega
  have h1 := emod_range x b
  have hb := two_pow_pos b
  rw [e, ← Int.ediv_ediv_of_nonneg (Int.le_of_lt hb), Int.add_mul_ediv_left _ _ (by omega), Int.ediv_eq_zero_of_lt h1.1 h1.2, Int.zero_add]

def modI (n : Int) (b : Nat) : Int := match n with
  | .ofNat m => .ofNat (Nat.mod m (Nat.pow 2 b))
  | .negSucc m => Int.negSucc m % 2 ^ b
theorem modI_eq (n : Int) (b : Nat) : modI n b = n % 2 ^ b := by
  cases n with
  | ofNat m =>
    simp only [modI]
    show ((m % 2 ^ b : Nat) : Int) = (m : Int) % 2 ^ b
    push_cast
    rfl
  | negSucc m => rfl
def mkMd : SE → Nat → SE
  | .lit n, b => .lit (modI n b)
  | .md a c, b => .md a (cond (Nat.ble b c) b c)
  | .cat x c r, b => cond (Nat.ble b c) (mkMd x b) (.cat x c (mkMd r (Nat.sub b c)))
  | .ite c x y, b => .ite c (mkMd x b) (mkMd y b)
  | .var i, b => .md (.var i) b
  | e, b => cond (leO (ub e) b) e (.md e b)
theorem md_dflt (e : SE) (b : Nat) : (cond (leO (ub e) b) e (.md e b)).den E = e.den E % 2 ^ b := by
  cases h : leO (ub e) b
  · rfl
  · exact (emod_small (leO_ok E h)).symm
theorem mkMd_den (e : SE) : ∀ b, (mkMd e b).den E = e.den E % 2 ^ b := by
  induction e <;> intro n <;> try exact md_dflt E _ n
  case lit x => simp only [mkMd, SE.den, modI_eq]
  case var i => rfl
  case md a c ih =>
    simp only [mkMd, SE.den]
    cases h : Nat.ble n c
    · have : c ≤ n := by
        rcases Nat.le_total n c with h' | h'
        · rw [Nat.ble_eq_true_of_le h'] at h; cases h
        · exact h'
      exact (emod_emod_pow' _ this).symm
    · exact (emod_emod_pow _ (Nat.le_of_ble_eq_true h)).symm
  case cat x c r ihx ihr =>
    simp only [mkMd, SE.den]
    cases h : Nat.ble n c
    · have : c ≤ n := by
        rcases Nat.le_total n c with h' | h'
        · rw [Nat.ble_eq_true_of_le h'] at h; cases h
        · exact h'
      simp only [cond, SE.den, ihr]
      exact (cat_emod_high _ _ this).symm
    · simp only [cond, ihx]
      exact (cat_emod_low _ _ (Nat.le_of_ble_eq_true h)).symm
  case ite c x y ihc ihx ihy =>
    simp only [mkMd, SE.den, ihx, ihy]
    split <;> rfl

/-- so many bits a number of this kind may have to stay as it is -/
def wb : IntKind → Nat
  | .i8 => 7
  | .u8 => 8
  | .i16 => 15
  | .u16 => 16
  | .i32 => 31
  | .u32 => 32
  | .i64 => 63
  | .u64 => 64
theorem wrap_small {k : IntKind} {x : Int} (h : 0 ≤ x ∧ x < 2 ^ wb k) : k.wrap x = x := by
  cases k <;> simp [wb, IntKind.wrap, IntKind.bits, IntKind.signed] at * <;> omega
def wrapI (k : IntKind) (n : Int) : Int := match n with
  | .ofNat m => cond (Nat.blt m (Nat.pow 2 (wb k))) (.ofNat m) (k.wrap (.ofNat m))
  | .negSucc m => k.wrap (.negSucc m)
theorem wrapI_eq (k : IntKind) (n : Int) : wrapI k n = k.wrap n := by
  cases n with
  | ofNat m =>
    simp only [wrapI]
    cases h : Nat.blt m (Nat.pow 2 (wb k))
    · rfl
    · have h1 : m < 2 ^ wb k := by simpa [Nat.blt_eq] using h
      refine (wrap_small ⟨by simp, ?_⟩).symm
      have : (m : Int) < ((2 ^ wb k : Nat) : Int) := by exact_mod_cast h1
      simpa using this
  | negSucc m => rfl
def mkWrap (k : IntKind) (e : SE) : SE := match e with
  | .lit n => .lit (wrapI k n)
  | .var i => .wrap k (.var i)
  | e => cond (leO (ub e) (wb k)) e (.wrap k e)
theorem mkWrap_den (k : IntKind) (e : SE) : (mkWrap k e).den E = k.wrap (e.den E) := by
  have d : (cond (leO (ub e) (wb k)) e (.wrap k e)).den E = k.wrap (e.den E) := by
    cases h : leO (ub e) (wb k)
    · rfl
    · exact (wrap_small (leO_ok E h)).symm
  cases e <;> first | exact d | simp only [mkWrap, SE.den, wrapI_eq]

def mkShl (e : SE) (n : Nat) : SE := match e with
  | .lit x => .lit (x * 2 ^ n)
  | .shl a m => match m with
    | .lit l => match l with
      | .ofNat m => .shl a (.lit (.ofNat (Nat.add m n)))
      | .negSucc _ => .shl e (.lit (.ofNat n))
    | _ => .shl e (.lit (.ofNat n))
  | _ => match n with
    | 0 => e
    | n + 1 => .shl e (.lit (.ofNat (n + 1)))
theorem mkShl_den (e : SE) (n : Nat) : (mkShl e n).den E = e.den E * 2 ^ n := by
  unfold mkShl
  split
  · rfl
  · split
    · split
      · rename_i m
        simp only [SE.den, Int.ofNat_eq_natCast, Int.toNat_natCast]
        rw [Int.mul_assoc, ← Int.pow_add]
        rfl
      · rfl
    · rfl
  · split
    · simp
    · rfl
def mkShr : SE → Nat → SE
  | .lit x, n => .lit (x / 2 ^ n)
  | .cat x b r, n => match n with
    | 0 => .cat x b r
    | n + 1 => cond (Nat.ble b (n + 1)) (mkShr r (Nat.sub (n + 1) b)) (.shr (.cat x b r) (.lit (.ofNat (n + 1))))
  | .shr a m, n => match m with
    | .lit l => match l with
      | .ofNat m => .shr a (.lit (.ofNat (Nat.add m n)))
      | .negSucc l => .shr (.shr a (.lit (.negSucc l))) (.lit (.ofNat n))
    | m => .shr (.shr a m) (.lit (.ofNat n))
  | e, n => match n with
    | 0 => e
    | n + 1 => .shr e (.lit (.ofNat (n + 1)))
theorem shr_dflt (e : SE) (n : Nat) : (match n with | 0 => e | n + 1 => SE.shr e (.lit (.ofNat (n + 1)))).den E = e.den E / 2 ^ n := by
  cases n with
  | zero => simp
  | succ n => rfl
theorem mkShr_den (e : SE) : ∀ n, (mkShr e n).den E = e.den E / 2 ^ n := by
  induction e <;> intro n <;> try exact shr_dflt E _ n
  case lit x => rfl
  case cat x b r ihx ihr =>
    simp only [mkShr]
    cases n with
    | zero => simp
    | succ n =>
      simp only
      cases h : Nat.ble b (n + 1)
      · rfl
      · simp only [cond, ihr]
        exact (cat_ediv _ _ (Nat.le_of_ble_eq_true h)).symm
  case shr a m iha ihm =>
    simp only [mkShr]
    split
    · split
      · simp only [SE.den, Int.ofNat_eq_natCast, Int.toNat_natCast]
        rw [Int.ediv_ediv_of_nonneg (Int.le_of_lt (two_pow_pos _)), ← Int.pow_add]
        rfl
      · rfl
    · rfl

/-- e + 2^n x where e < 2^n -/
def catEnd : SE → Nat → SE → SE
  | .cat a b r, n, x => .cat a b (catEnd r (Nat.sub n b) x)
  | e, n, x => match n with
    | 0 => x
    | n + 1 => .cat e (n + 1) x
theorem catEnd_dflt (e : SE) (n : Nat) (x : SE) (h : leO (ub e) n = true) : (match n with | 0 => x | n + 1 => SE.cat e (n + 1) x).den E = e.den E + 2 ^ n * x.den E := by
  have hb := leO_ok E h
  cases n with
  | zero => simp at hb ⊢; omega
  | succ n => simp only [SE.den]; rw [emod_small hb]
theorem catEnd_den (e : SE) (x : SE) : ∀ n, leO (ub e) n = true → (catEnd e n x).den E = e.den E + 2 ^ n * x.den E := by
  induction e <;> intro n h <;> try exact catEnd_dflt E _ n x h
  case cat a b r iha ihr =>
    simp only [catEnd, SE.den]
    simp only [ub] at h
    cases hr : ub r with
    | none => rw [hr] at h; cases h
    | some m =>
      rw [hr] at h
      have h1 : b + m ≤ n := Nat.le_of_ble_eq_true h
      have e0 : Nat.sub n b = n - b := rfl
      rw [e0, ihr (n - b) (by rw [hr]; exact Nat.ble_eq_true_of_le (by omega))]
      have e1 : (2 : Int) ^ n = 2 ^ b * 2 ^ (n - b) := by rw [← Int.pow_add]; congr 1; omega
      rw [Int.mul_add, e1, Int.mul_assoc, Int.add_assoc]
def shlAdd (v n e d : SE) : SE := match n with
  | .lit l => match l with
    | .ofNat m => cond (leO (ub e) m) (catEnd e m v) d
    | .negSucc _ => d
  | _ => d
theorem shlAdd_den (v n e d : SE) (h : d.den E = e.den E + (SE.shl v n).den E) : (shlAdd v n e d).den E = e.den E + (SE.shl v n).den E := by
  unfold shlAdd
  split
  · split
    · rename_i m
      cases hh : leO (ub e) m
      · exact h
      · simp only [cond, catEnd_den E e v m hh, SE.den, Int.ofNat_eq_natCast, Int.toNat_natCast]
        rw [Int.mul_comm]
    · exact h
  · exact h
def mkAdd (a b : SE) : SE := match a with
  | .lit x => match b with
    | .lit y => .lit (addI x y)
    | b => cond (int0 x) b (.add (.lit x) b)
  | .shl v n => match b with
    | .lit y => cond (int0 y) (.shl v n) (.add (.shl v n) (.lit y))
    | b => shlAdd v n b (.add (.shl v n) b)
  | a => match b with
    | .lit y => cond (int0 y) a (.add a (.lit y))
    | .shl v n => shlAdd v n a (.add a (.shl v n))
    | b => .add a b
theorem cond0 {x : Int} {a b : SE} : (cond (int0 x) a b).den E = if x = 0 then a.den E else b.den E := by
  by_cases h : x = 0
  · rw [if_pos h, (int0_iff x).2 h]; rfl
  · rw [if_neg h]
    have : int0 x = false := by
      cases h' : int0 x
      · rfl
      · exact absurd ((int0_iff x).1 h') h
    rw [this]; rfl
theorem mkAdd_den (a b : SE) : (mkAdd a b).den E = a.den E + b.den E := by
  unfold mkAdd
  split
  · split
    · simp only [SE.den, addI_eq]
    · rw [cond0]; split <;> simp_all [SE.den]
  · split
    · rw [cond0]; split <;> simp_all [SE.den]
    · rw [shlAdd_den, Int.add_comm]; simp only [SE.den]; rw [Int.add_comm]
  · split
    · rw [cond0]; split <;> simp_all [SE.den]
    · rw [shlAdd_den]; rfl
    · rfl
def mkSub (a b : SE) : SE := match a with
  | .lit x => match b with
    | .lit y => .lit (x - y)
    | b => .sub (.lit x) b
  | a => match b with
    | .lit y => cond (int0 y) a (.sub a (.lit y))
    | b => .sub a b
theorem mkSub_den (a b : SE) : (mkSub a b).den E = a.den E - b.den E := by
  unfold mkSub
  split
  · split <;> rfl
  · split
    · rw [cond0]; split <;> simp_all [SE.den]
    · rfl
def lg (n : Nat) : Option Nat := cond (Nat.beq (Nat.pow 2 (Nat.log2 n)) n) (some (Nat.log2 n)) none
theorem lg_ok {n k : Nat} (h : lg n = some k) : n = 2 ^ k := by
  unfold lg at h
  cases hb : Nat.beq (Nat.pow 2 (Nat.log2 n)) n <;> rw [hb] at h <;> cases h
  exact (Nat.eq_of_beq_eq_true hb).symm
def mulL (y : Int) (a d : SE) : SE := match y with
  | .ofNat n => match lg n with
    | some k => mkShl a k
    | none => d
  | .negSucc _ => d
theorem mulL_den (y : Int) (a d : SE) (h : d.den E = a.den E * y) : (mulL y a d).den E = a.den E * y := by
  unfold mulL
  split
  · split
    · rename_i n k hk
      rw [mkShl_den, lg_ok hk]
      push_cast
      rfl
    · exact h
  · exact h
def mkMul (a b : SE) : SE := match a with
  | .lit x => match b with
    | .lit y => .lit (x * y)
    | b => mulL x b (.mul (.lit x) b)
  | a => match b with
    | .lit y => mulL y a (.mul a (.lit y))
    | b => .mul a b
theorem mkMul_den (a b : SE) : (mkMul a b).den E = a.den E * b.den E := by
  unfold mkMul
  split
  · split
    · rfl
    · rw [mulL_den, Int.mul_comm]; rfl
      simp only [SE.den]; rw [Int.mul_comm]
  · split
    · rw [mulL_den]; rfl; rfl
    · rfl

def mkNot (e : SE) : SE := match e with
  | .lit n => .lit (cond (int0 n) 1 0)
  | e => .eq e (.lit 0)
theorem cond_int0 (x a b : Int) : (cond (int0 x) a b) = if x = 0 then a else b := by
  by_cases h : x = 0
  · rw [if_pos h, (int0_iff x).2 h]; rfl
  · rw [if_neg h]
    have : int0 x = false := by
      cases h' : int0 x
      · rfl
      · exact absurd ((int0_iff x).1 h') h
    rw [this]; rfl
theorem mkNot_den (e : SE) : (mkNot e).den E = if e.den E = 0 then 1 else 0 := by
  cases e <;> try rfl
  exact cond_int0 _ _ _
def mkLt (a b : SE) : SE := match a with
  | .lit x => match b with
    | .lit y => .lit (cond (intLt x y) 1 0)
    | b => .lt (.lit x) b
  | a => .lt a b
theorem cond_intLt (x y a b : Int) : (cond (intLt x y) a b) = if x < y then a else b := by
  by_cases h : x < y
  · rw [if_pos h, (intLt_iff x y).2 h]; rfl
  · rw [if_neg h]
    have : intLt x y = false := by
      cases h' : intLt x y
      · rfl
      · exact absurd ((intLt_iff x y).1 h') h
    rw [this]; rfl
theorem cond_intEq (x y a b : Int) : (cond (intEq x y) a b) = if x = y then a else b := by
  by_cases h : x = y
  · rw [if_pos h, (intEq_iff x y).2 h]; rfl
  · rw [if_neg h]
    have : intEq x y = false := by
      cases h' : intEq x y
      · rfl
      · exact absurd ((intEq_iff x y).1 h') h
    rw [this]; rfl
theorem mkLt_den (a b : SE) : (mkLt a b).den E = if a.den E < b.den E then 1 else 0 := by
  cases a <;> try rfl
  cases b <;> try rfl
  exact cond_intLt _ _ _ _
def mkEq (a b : SE) : SE := match a with
  | .lit x => match b with
    | .lit y => .lit (cond (intEq x y) 1 0)
    | b => .eq (.lit x) b
  | a => cond (SE.beq a b) (.lit 1) (.eq a b)
theorem eq_dflt (a b : SE) : (cond (SE.beq a b) (SE.lit 1) (.eq a b)).den E = if a.den E = b.den E then 1 else 0 := by
  cases h : SE.beq a b
  · rfl
  · rw [SE.beq_eq h, if_pos rfl]; rfl
theorem mkEq_den (a b : SE) : (mkEq a b).den E = if a.den E = b.den E then 1 else 0 := by
  cases a <;> try exact eq_dflt E _ _
  cases b <;> try rfl
  exact cond_intEq _ _ _ _
/-- is it 0 or 1 whatever the variables are? -/
def isB : SE → Bool
  | .lt _ _ => true
  | .eq _ _ => true
  | .ite _ a b => cond (isB a) (isB b) false
  | .lit n => match n with
    | .ofNat n => Nat.ble n 1
    | .negSucc _ => false
  | _ => false
theorem isB_ok : ∀ {e : SE}, isB e = true → e.den E = 0 ∨ e.den E = 1 := by
  intro e
  induction e <;> intro h <;> simp only [isB, Bool.false_eq_true] at h
  case lt a b _ _ => simp only [SE.den]; split <;> simp
  case eq a b _ _ => simp only [SE.den]; split <;> simp
  case lit n =>
    split at h
    · have := Nat.le_of_ble_eq_true h
      simp only [SE.den, Int.ofNat_eq_natCast]
      omega
    · cases h
  case ite c a b _ iha ihb =>
    cases ha : isB a <;> rw [ha] at h
    · cases h
    · simp only [SE.den]
      split
      · exact ihb h
      · exact iha ha
def iteT (c a b : SE) (x y : Int) : SE := cond (intEq x 1) (cond (int0 y) (cond (isB c) c (.ite c a b)) (.ite c a b)) (cond (int0 x) (cond (intEq y 1) (mkNot c) (.ite c a b)) (.ite c a b))
def mkIte (c a b : SE) : SE := match c with
  | .lit n => cond (int0 n) b a
  | c => cond (SE.beq a b) a (match a with
    | .lit x => match b with
      | .lit y => iteT c (.lit x) (.lit y) x y
      | b => .ite c (.lit x) b
    | a => .ite c a b)
theorem intEq_false {a b : Int} (h : intEq a b = false) : a ≠ b := fun e => by rw [(intEq_iff a b).2 e] at h; cases h
theorem iteT_den (c : SE) (x y : Int) : (iteT c (.lit x) (.lit y) x y).den E = if c.den E = 0 then y else x := by
  unfold iteT
  cases h1 : intEq x 1
  · simp only [cond]
    by_cases h2 : x = 0
    · rw [(int0_iff x).2 h2]
      simp only
      cases h3 : intEq y 1
      · rfl
      · simp only [mkNot_den]
        rw [h2, (intEq_iff y 1).1 h3]
    · have : int0 x = false := by
        cases h' : int0 x
        · rfl
        · exact absurd ((int0_iff x).1 h') h2
      rw [this]; rfl
  · have e1 := (intEq_iff x 1).1 h1
    simp only [cond]
    by_cases h2 : y = 0
    · rw [(int0_iff y).2 h2]
      simp only
      cases h3 : isB c
      · rfl
      · rcases isB_ok E h3 with h4 | h4 <;> simp [h4, e1, h2]
    · have : int0 y = false := by
        cases h' : int0 y
        · rfl
        · exact absurd ((int0_iff y).1 h') h2
      rw [this]; rfl
theorem ite_dflt (c a b : SE) : (cond (SE.beq a b) a (match a with
    | .lit x => match b with
      | .lit y => iteT c (.lit x) (.lit y) x y
      | b => .ite c (.lit x) b
    | a => .ite c a b)).den E = if c.den E = 0 then b.den E else a.den E := by
  cases hb : SE.beq a b
  · simp only [cond]
    cases a <;> try rfl
    cases b <;> try rfl
    exact iteT_den E _ _ _
  · rw [SE.beq_eq hb]; simp
theorem mkIte_den (c a b : SE) : (mkIte c a b).den E = if c.den E = 0 then b.den E else a.den E := by
  cases c <;> try exact ite_dflt E _ a b
  exact cond0 E
/-- are both 0, or both not? -/
def mkEqB (a b : SE) : SE := match b with
  | .lit n => cond (int0 n) (mkNot a) (mkNot (mkNot a))
  | b => mkIte a (mkNot (mkNot b)) (mkNot b)
theorem mkEqB_den (a b : SE) : (mkEqB a b).den E = if (a.den E = 0 ↔ b.den E = 0) then 1 else 0 := by
  have d : (mkIte a (mkNot (mkNot b)) (mkNot b)).den E = if (a.den E = 0 ↔ b.den E = 0) then 1 else 0 := by
    simp only [mkIte_den, mkNot_den]
    by_cases h1 : a.den E = 0 <;> by_cases h2 : b.den E = 0 <;> simp [h1, h2]
  cases b <;> try exact d
  rename_i n
  show (cond (int0 n) (mkNot a) (mkNot (mkNot a))).den E = _
  rw [cond0, mkNot_den, mkNot_den, mkNot_den]
  simp only [SE.den]
  by_cases h1 : a.den E = 0 <;> by_cases h2 : n = 0 <;> simp [h1, h2]

/-! bits -/
def inR (k : IntKind) (x : Int) : Prop := k.min ≤ x ∧ x ≤ k.max
theorem inR_unsigned {k : IntKind} (h : k.signed = false) {x : Int} (hx : inR k x) : 0 ≤ x ∧ x < 2 ^ k.bits := by
  cases k <;> simp [IntKind.signed] at h <;> simp [inR, IntKind.min, IntKind.max, IntKind.signed, IntKind.bits] at * <;> omega
theorem ofInt_toNat (n : Nat) (x : Int) : ((BitVec.ofInt n x).toNat : Int) = x % 2 ^ n := by
  rw [BitVec.toNat_ofInt]
  have h := two_pow_pos n
  have : ((2 ^ n : Nat) : Int) = 2 ^ n := by push_cast; rfl
  rw [this, Int.toNat_of_nonneg (Int.emod_nonneg _ (by omega))]
theorem and_mask (k : IntKind) (x : Int) (j : Nat) (hj : j ≤ k.bits) : ((BitVec.ofInt k.bits x &&& BitVec.ofInt k.bits ((2 : Int) ^ j - 1)).toNat : Int) = x % 2 ^ j := by
  have h1 : BitVec.ofInt k.bits ((2 : Int) ^ j - 1) = BitVec.ofNat k.bits (2 ^ j - 1) := by
    have : (2 : Int) ^ j - 1 = ((2 ^ j - 1 : Nat) : Int) := by
      have := Nat.two_pow_pos j
      push_cast [Int.natCast_sub this]
      rfl
    rw [this, BitVec.ofInt_natCast]
  rw [h1, BitVec.toNat_and, BitVec.toNat_ofNat]
  have h2 : (2 ^ j - 1) % 2 ^ k.bits = 2 ^ j - 1 := by
    apply Nat.mod_eq_of_lt
    have := Nat.two_pow_pos j
    have := Nat.pow_le_pow_right (show 0 < 2 by decide) hj
    omega
  rw [h2, Nat.and_two_pow_sub_one_eq_mod]
  push_cast
  rw [ofInt_toNat, emod_emod_pow x hj]

theorem natLit_den (n : Nat) : (SE.lit (.ofNat n)).den E = (n : Int) := rfl
def andL (k : IntKind) (e : SE) (n : Int) (d : SE) : SE := match n with
  | .ofNat n => match lg (Nat.succ n) with
    | some j => cond (Nat.ble j (wb k)) (cond (Nat.beq j k.bits) e (mkMd e j)) d
    | none => d
  | .negSucc _ => d
theorem wb_le (k : IntKind) : wb k ≤ k.bits := by cases k <;> decide
theorem wb_bits {k : IntKind} (h : k.bits ≤ wb k) : k.signed = false := by cases k <;> first | rfl | (exact absurd h (by decide))
theorem andL_den (k : IntKind) (e : SE) (n : Int) (d : SE) (he : inR k (e.den E)) (hd : d.den E = bitsI .and k (e.den E) n) : (andL k e n d).den E = bitsI .and k (e.den E) n := by
  unfold andL
  split
  · rename_i m
    cases hj : lg (Nat.succ m) with
    | none => exact hd
    | some j =>
      simp only
      cases h1 : Nat.ble j (wb k)
      · exact hd
      · have hjw := Nat.le_of_ble_eq_true h1
        have hjb := Nat.le_trans hjw (wb_le k)
        have hm : ((m : Nat) : Int) = 2 ^ j - 1 := by
          have := lg_ok hj
          have e2 : ((m + 1 : Nat) : Int) = ((2 ^ j : Nat) : Int) := by exact_mod_cast this
          push_cast at e2
          omega
        have hv : bitsI .and k (e.den E) (Int.ofNat m) = e.den E % 2 ^ j := by
          simp only [bitsI, Int.ofNat_eq_natCast, hm]
          rw [and_mask k _ j hjb]
          have := emod_range (e.den E) j
          exact wrap_small ⟨this.1, Int.lt_of_lt_of_le this.2 (two_pow_mono hjw)⟩
        rw [hv]
        cases h2 : Nat.beq j k.bits
        · exact mkMd_den E e j
        · have h3 := Nat.eq_of_beq_eq_true h2
          subst h3
          exact (emod_small (inR_unsigned (wb_bits hjw) he)).symm
  · exact hd
theorem or_zero (k : IntKind) (x : Int) (h : inR k x) : bitsI .or k x 0 = x := by
  simp only [bitsI]
  have : BitVec.ofInt k.bits 0 = 0#k.bits := by simp
  rw [this, BitVec.or_zero, ofInt_toNat]
  cases k <;> simp [inR, IntKind.min, IntKind.max, IntKind.signed, IntKind.bits, IntKind.wrap] at * <;> omega
theorem or_comm' (k : IntKind) (x y : Int) : bitsI .or k x y = bitsI .or k y x := by simp only [bitsI, BitVec.or_comm]
theorem and_comm' (k : IntKind) (x y : Int) : bitsI .and k x y = bitsI .and k y x := by simp only [bitsI, BitVec.and_comm]
theorem or_shl (k : IntKind) (x v : Int) (n : Nat) (hk : k.signed = false) (h1 : 0 ≤ x) (h2 : x < 2 ^ n) (h3 : inR k x) (h4 : inR k (v * 2 ^ n)) : bitsI .or k x (v * 2 ^ n) = x + 2 ^ n * v := by
  obtain ⟨a1, a2⟩ := inR_unsigned hk h3
  obtain ⟨b1, b2⟩ := inR_unsigned hk h4
  have hn := two_pow_pos n
  have hv : 0 ≤ v := by
    rcases Int.lt_or_le v 0 with h | h
    · have := Int.mul_neg_of_neg_of_pos h hn; omega
    · exact h
  obtain ⟨X, rfl⟩ := Int.eq_ofNat_of_zero_le h1
  obtain ⟨V, rfl⟩ := Int.eq_ofNat_of_zero_le hv
  have hX : X < 2 ^ n := by exact_mod_cast h2
  have hXb : X < 2 ^ k.bits := by exact_mod_cast a2
  have hVb : V * 2 ^ n < 2 ^ k.bits := by exact_mod_cast b2
  have e1 : (V : Int) * 2 ^ n = ((V * 2 ^ n : Nat) : Int) := by push_cast; rfl
  simp only [bitsI]
  rw [wrap_unsigned hk, e1, BitVec.ofInt_natCast, BitVec.ofInt_natCast, BitVec.toNat_or, BitVec.toNat_ofNat, BitVec.toNat_ofNat, Nat.mod_eq_of_lt hXb, Nat.mod_eq_of_lt hVb]
  have e2 : X ||| V * 2 ^ n = V * 2 ^ n + X := by
    rw [Nat.or_comm, Nat.mul_comm V, Nat.two_pow_add_eq_or_of_lt hX]
  have e3 : X ||| V * 2 ^ n < 2 ^ k.bits := Nat.or_lt_two_pow hXb hVb
  have e4 : (((X ||| V * 2 ^ n : Nat) : Int)) % 2 ^ k.bits = ((X ||| V * 2 ^ n : Nat) : Int) := Int.emod_eq_of_lt (by omega) (by exact_mod_cast e3)
  rw [e4, e2]
  push_cast
  rw [Int.mul_comm, Int.add_comm]
def orS (k : IntKind) (e v n d : SE) : SE := cond k.signed d (shlAdd v n e d)
theorem orS_den (k : IntKind) (e v n d : SE) (he : inR k (e.den E)) (hv : inR k ((SE.shl v n).den E)) (hd : d.den E = bitsI .or k (e.den E) ((SE.shl v n).den E)) : (orS k e v n d).den E = bitsI .or k (e.den E) ((SE.shl v n).den E) := by
  unfold orS
  cases hk : k.signed
  · unfold shlAdd
    simp only [cond]
    split
    · split
      · rename_i m
        cases hl : leO (ub e) m
        · exact hd
        · have hb := leO_ok E hl
          simp only [SE.den, Int.ofNat_eq_natCast, Int.toNat_natCast] at hv ⊢
          rw [or_shl k _ _ m hk hb.1 hb.2 he hv, catEnd_den E e v m hl]
      · exact hd
    · exact hd
  · exact hd
def mkOr (k : IntKind) (a b : SE) : SE := match a with
  | .lit x => match b with
    | .lit y => .lit (bitsI .or k x y)
    | b => cond (int0 x) b (.bit .or k (.lit x) b)
  | .shl v n => match b with
    | .lit y => cond (int0 y) (.shl v n) (.bit .or k (.shl v n) (.lit y))
    | b => orS k b v n (.bit .or k (.shl v n) b)
  | a => match b with
    | .lit y => cond (int0 y) a (.bit .or k a (.lit y))
    | .shl v n => orS k a v n (.bit .or k a (.shl v n))
    | b => .bit .or k a b
theorem mkOr_den (k : IntKind) (a b : SE) (ha : inR k (a.den E)) (hb : inR k (b.den E)) : (mkOr k a b).den E = bitsI .or k (a.den E) (b.den E) := by
  unfold mkOr
  split
  · split
    · rfl
    · rw [cond0]
      split
      · rename_i h
        simp only [SE.den, h]
        rw [or_comm', or_zero k _ hb]
      · rfl
  · split
    · rw [cond0]
      split
      · rename_i h
        simp only [SE.den, h] at ha ⊢
        rw [or_zero k _ ha]
      · rfl
    · rw [or_comm']
      exact orS_den E k _ _ _ _ hb ha (by rw [or_comm']; rfl)
  · split
    · rw [cond0]
      split
      · rename_i h
        simp only [SE.den, h]
        rw [or_zero k _ ha]
      · rfl
    · exact orS_den E k _ _ _ _ ha hb rfl
    · rfl
def mkAnd (k : IntKind) (a b : SE) : SE := match a with
  | .lit x => match b with
    | .lit y => .lit (bitsI .and k x y)
    | b => andL k b x (.bit .and k (.lit x) b)
  | a => match b with
    | .lit y => andL k a y (.bit .and k a (.lit y))
    | b => .bit .and k a b
theorem mkAnd_den (k : IntKind) (a b : SE) (ha : inR k (a.den E)) (hb : inR k (b.den E)) : (mkAnd k a b).den E = bitsI .and k (a.den E) (b.den E) := by
  unfold mkAnd
  split
  · split
    · rfl
    · rw [and_comm']
      exact andL_den E k _ _ _ hb (by rw [and_comm']; rfl)
  · split
    · exact andL_den E k _ _ _ ha rfl
    · rfl
def mkBit (o : BinOp) (k : IntKind) (a b : SE) : SE := match a with
  | .lit x => match b with
    | .lit y => .lit (bitsI o k x y)
    | b => .bit o k (.lit x) b
  | a => .bit o k a b
theorem mkBit_den (o : BinOp) (k : IntKind) (a b : SE) : (mkBit o k a b).den E = bitsI o k (a.den E) (b.den E) := by
  cases a <;> try rfl
  cases b <;> rfl

end Sx
end Go.Proofs.YtfdggebddcoeeaaGreatDoor
