/-
  Each silent operation does what the evaluator says: it leaves this value and turns nothing.
-/
import Derived.Test.YtfdggebddcoeeaaGreatDoorTyD
set_option linter.unusedVariables false
set_option linter.unusedSimpArgs false
noncomputable section
namespace Go.Proofs.YtfdggebddcoeeaaGreatDoor
namespace Sx
open Go Go.RowKit
variable (E : Env) (loc : Nat → Nat × Nat) (P : Program) (G : Gl)

/-! ranges -/
theorem inR_wrap (k : IntKind) (x : Int) : inR k (k.wrap x) := by
  cases k <;> simp [inR, IntKind.min, IntKind.max, IntKind.signed, IntKind.bits, IntKind.wrap] <;> omega
theorem inR_ediv {k : IntKind} {x : Int} (h : inR k x) (n : Nat) : inR k (x / 2 ^ n) := by
  have hp := two_pow_pos n
  rcases Int.lt_or_le x 0 with hx | hx
  · have h1 : x ≤ x / 2 ^ n := by
      have := Int.mul_ediv_add_emod x (2 ^ n)
      have h2 := Int.emod_nonneg x (show (2 : Int) ^ n ≠ 0 by omega)
      have h3 : x / 2 ^ n < 0 := Int.ediv_neg_of_neg_of_pos hx hp
      have h4 : 2 ^ n * (x / 2 ^ n) ≤ 1 * (x / 2 ^ n) := Int.mul_le_mul_of_nonpos_right (by omega) (by omega)
      have h5 := Int.emod_lt_of_pos x hp
      rcases Int.lt_or_le (x / 2 ^ n) x with h6 | h6
      · have h7 : x / 2 ^ n ≤ x - 1 := by omega
        have h8 : 2 ^ n * (x / 2 ^ n) ≤ 2 ^ n * (x - 1) := Int.mul_le_mul_of_nonneg_left h7 (by omega)
        have h9 : 2 ^ n * (x - 1) ≤ 1 * (x - 1) := Int.mul_le_mul_of_nonpos_right (by omega) (by omega)
        have h10 : x = 2 ^ n * (x / 2 ^ n) + x % 2 ^ n := by omega
        have h11 : 2 ^ n * (x - 1) = 2 ^ n * x - 2 ^ n := by rw [Int.mul_sub]; omega
        have h12 : 2 ^ n * x ≤ 1 * x := Int.mul_le_mul_of_nonpos_right (by omega) (by omega)
        omega
      · exact h6
    have h3 : x / 2 ^ n < 0 := Int.ediv_neg_of_neg_of_pos hx hp
    have hm : 0 ≤ k.max := by cases k <;> simp [IntKind.max, IntKind.signed, IntKind.bits]
    exact ⟨Int.le_trans h.1 h1, by omega⟩
  · have h1 : x / 2 ^ n ≤ x := Int.ediv_le_self _ hx
    have h2 : 0 ≤ x / 2 ^ n := Int.ediv_nonneg hx (by omega)
    have hm : k.min ≤ 0 := by cases k <;> simp [IntKind.min, IntKind.signed, IntKind.bits]
    exact ⟨by omega, Int.le_trans h1 h.2⟩
theorem inR_bitsI (o : BinOp) (k : IntKind) (x y : Int) : inR k (bitsI o k x y) := inR_wrap _ _
theorem tmod_le (m : Nat) (y : Int) : (m : Int).tmod y ≤ m := by
  obtain ⟨n, hn⟩ : ∃ n : Nat, y = n ∨ y = -n := ⟨y.natAbs, Int.natAbs_eq y⟩
  have := Nat.mod_le m n
  rw [Int.tmod_eq_emod_of_nonneg (by omega)]
  rcases hn with rfl | rfl
  · exact_mod_cast this
  · rw [Int.emod_neg]; exact_mod_cast this
theorem inR_tmod {k : IntKind} {x : Int} (h : inR k x) (y : Int) : inR k (x.tmod y) := by
  have hm : 0 ≤ k.max := by cases k <;> simp [IntKind.max, IntKind.signed, IntKind.bits]
  have hn : k.min ≤ 0 := by cases k <;> simp [IntKind.min, IntKind.signed, IntKind.bits]
  have h1 := h.1
  have h2 := h.2
  rcases Int.lt_or_le x 0 with hx | hx
  · have a1 : x ≤ x.tmod y := by
      have e : x.tmod y = -((-x).tmod y) := by rw [Int.neg_tmod]; omega
      have : (-x).tmod y ≤ -x := by
        obtain ⟨m, hm⟩ := Int.eq_ofNat_of_zero_le (show 0 ≤ -x by omega)
        rw [hm]
        exact tmod_le m y
      omega
    have a2 : x.tmod y ≤ 0 := by
      have e : x.tmod y = -((-x).tmod y) := by rw [Int.neg_tmod]; omega
      have : 0 ≤ (-x).tmod y := Int.tmod_nonneg _ (by omega)
      omega
    exact ⟨by omega, by omega⟩
  · have a1 : 0 ≤ x.tmod y := Int.tmod_nonneg _ hx
    have a2 : x.tmod y ≤ x := by
      obtain ⟨m, rfl⟩ := Int.eq_ofNat_of_zero_le hx
      exact tmod_le m y
    exact ⟨by omega, by omega⟩
theorem bits_eq (o : BinOp) (k : IntKind) (x y : Int) : bits o k x y = bitsI o k x y := by
  unfold bits bitsI
  cases o <;> rfl
theorem den_bool {e : SE} {p : Prop} [Decidable p] (h : e.den E = if p then 1 else 0) : decide (e.den E ≠ 0) = decide p := by
  rw [h]; split <;> simp_all

/-! two numbers -/
theorem quoI_ok {k : IntKind} {a b : SE} {v : SV} (h : quoI k a b = some v) (ha : inR k (a.den E)) : v.den E loc = .int k (k.wrap ((a.den E).tdiv (b.den E))) ∧ b.den E ≠ 0 ∧ v.wf E 0 := by
  unfold quoI at h
  cases b <;> try (cases h; done)
  rename_i y
  simp only at h
  cases hy : int0 y <;> rw [hy] at h <;> simp only [cond] at h <;> try (cases h; done)
  have hy' : y ≠ 0 := fun e => by rw [(int0_iff y).2 e] at hy; cases hy
  have gen : ∀ a : SE, (SV.int k (mkWrap k (.tdiv a (.lit y)))).den E loc = .int k (k.wrap ((a.den E).tdiv y)) ∧ y ≠ 0 ∧ (SV.int k (mkWrap k (.tdiv a (.lit y)))).wf E 0 := fun a => by
    refine ⟨?_, hy', ?_⟩
    · simp only [SV.den, mkWrap_den, SE.den]
    · simp only [SV.wf, mkWrap_den]; exact inR_wrap _ _
  have u64 : ∀ a : SE, inR .u64 (a.den E) → ∀ v, (match y with
        | .ofNat n => match lg n with
          | some j => some (SV.int .u64 (mkShr a j))
          | none => some (.int .u64 (mkWrap .u64 (.tdiv a (.lit (.ofNat n)))))
        | .negSucc _ => none) = some v → v.den E loc = .int .u64 (IntKind.u64.wrap ((a.den E).tdiv y)) ∧ y ≠ 0 ∧ v.wf E 0 := by
    intro a ha v h
    cases y with
    | negSucc _ => cases h
    | ofNat n =>
      simp only at h
      cases hj : lg n with
      | none =>
        rw [hj] at h; cases h
        refine ⟨?_, hy', ?_⟩
        · simp only [SV.den, mkWrap_den, SE.den]
        · simp only [SV.wf, mkWrap_den]; exact inR_wrap _ _
      | some j =>
        rw [hj] at h; cases h
        have hn := lg_ok hj
        have h0 := (inR_unsigned rfl ha).1
        have e : (Int.ofNat n) = (2 : Int) ^ j := by rw [hn]; simp
        have e2 : (a.den E).tdiv (Int.ofNat n) = a.den E / 2 ^ j := by rw [e, Int.tdiv_eq_ediv_of_nonneg h0]
        have e3 : IntKind.u64.wrap (a.den E / 2 ^ j) = a.den E / 2 ^ j := by
          have := inR_unsigned (k := .u64) rfl (inR_ediv ha j)
          exact wrap_small this
        refine ⟨?_, hy', ?_⟩
        · simp only [SV.den, mkShr_den, e2, e3]
        · simp only [SV.wf, mkShr_den]; exact inR_ediv ha j
  cases a <;> first
    | (cases h; refine ⟨rfl, hy', ?_⟩; exact inR_wrap _ _)
    | (cases k <;> first | (cases h; exact gen _) | exact u64 _ ha _ h)
theorem remI_ok {k : IntKind} {a b : SE} {v : SV} (h : remI k a b = some v) (ha : inR k (a.den E)) : v.den E loc = .int k ((a.den E).tmod (b.den E)) ∧ b.den E ≠ 0 ∧ v.wf E 0 := by
  unfold remI at h
  cases b <;> try (cases h; done)
  rename_i y
  simp only at h
  cases hy : int0 y <;> rw [hy] at h <;> simp only [cond] at h <;> try (cases h; done)
  have hy' : y ≠ 0 := fun e => by rw [(int0_iff y).2 e] at hy; cases hy
  have gen : ∀ a : SE, inR k (a.den E) → (SV.int k (.tmod a (.lit y))).den E loc = .int k ((a.den E).tmod y) ∧ y ≠ 0 ∧ (SV.int k (.tmod a (.lit y))).wf E 0 := fun a ha => by
    refine ⟨rfl, hy', ?_⟩
    exact inR_tmod ha _
  have u64 : ∀ a : SE, inR .u64 (a.den E) → ∀ v, (match y with
        | .ofNat n => match lg n with
          | some j => some (SV.int .u64 (mkMd a j))
          | none => some (.int .u64 (.tmod a (.lit (.ofNat n))))
        | .negSucc _ => none) = some v → v.den E loc = .int .u64 ((a.den E).tmod y) ∧ y ≠ 0 ∧ v.wf E 0 := by
    intro a ha v h
    cases y with
    | negSucc _ => cases h
    | ofNat n =>
      simp only at h
      cases hj : lg n with
      | none =>
        rw [hj] at h; cases h
        refine ⟨rfl, hy', ?_⟩
        exact inR_tmod ha _
      | some j =>
        rw [hj] at h; cases h
        have hn := lg_ok hj
        have h0 := (inR_unsigned rfl ha).1
        have e : (Int.ofNat n) = (2 : Int) ^ j := by rw [hn]; simp
        have e2 : (a.den E).tmod (Int.ofNat n) = a.den E % 2 ^ j := by rw [e, Int.tmod_eq_emod_of_nonneg h0]
        refine ⟨?_, hy', ?_⟩
        · simp only [SV.den, mkMd_den, e2]
        · simp only [SV.wf, mkMd_den, ← e2]; exact inR_tmod ha _
  cases a <;> first
    | (cases h; refine ⟨rfl, hy', ?_⟩; exact inR_tmod ha _)
    | (cases k <;> first | (cases h; exact gen _ ha) | exact u64 _ ha _ h)

theorem amt_ok (k : IntKind) (b : SE) (h : 0 ≤ b.den E) : ((amt k b).den E).toNat = min (b.den E).toNat k.bits := by
  simp only [amt, mkIte_den, mkLt_den, natLit_den]
  by_cases h1 : b.den E < (k.bits : Int)
  · simp [h1]; omega
  · simp [h1]; omega
theorem min_cond (n m : Nat) : (cond (Nat.ble n m) n m) = min n m := by
  cases h : Nat.ble n m
  · have : ¬ n ≤ m := fun e => by rw [Nat.ble_eq_true_of_le e] at h; cases h
    simp only [cond]; omega
  · have := Nat.le_of_ble_eq_true h
    simp only [cond]; omega
theorem nonneg_of_unsigned {l : IntKind} {x : Int} (hl : l.signed = false) (h : inR l x) : 0 ≤ x := (inR_unsigned hl h).1
theorem shlI_ok {k l : IntKind} {a b : SE} {v : SV} (h : shlI k a l b = some v) (hb : inR l (b.den E)) : 0 ≤ b.den E ∧ v.den E loc = .int k (k.wrap (a.den E * 2 ^ min (b.den E).toNat k.bits)) ∧ v.wf E 0 := by
  unfold shlI at h
  have gen : ∀ b : SE, inR l (b.den E) → (cond l.signed none (some (SV.int k (.wrap k (.shl a (amt k b)))))) = some v → 0 ≤ b.den E ∧ v.den E loc = .int k (k.wrap (a.den E * 2 ^ min (b.den E).toNat k.bits)) ∧ v.wf E 0 := by
    intro b hb h
    cases hl : l.signed <;> rw [hl] at h <;> cases h
    have h0 := nonneg_of_unsigned hl hb
    refine ⟨h0, ?_, inR_wrap _ _⟩
    simp only [SV.den, SE.den, amt_ok E k b h0]
  cases b <;> try exact gen _ hb h
  rename_i y
  cases y with
  | negSucc _ => cases h
  | ofNat n =>
    cases h
    refine ⟨by simp [SE.den], ?_, ?_⟩
    · simp only [SV.den, mkWrap_den, mkShl_den, min_cond, natLit_den, Int.toNat_natCast]
    · simp only [SV.wf, mkWrap_den]; exact inR_wrap _ _
theorem shrI_ok {k l : IntKind} {a b : SE} {v : SV} (h : shrI k a l b = some v) (ha : inR k (a.den E)) (hb : inR l (b.den E)) : 0 ≤ b.den E ∧ v.den E loc = .int k (a.den E / 2 ^ min (b.den E).toNat k.bits) ∧ v.wf E 0 := by
  unfold shrI at h
  have gen : ∀ b : SE, inR l (b.den E) → (cond l.signed none (some (SV.int k (.shr a (amt k b))))) = some v → 0 ≤ b.den E ∧ v.den E loc = .int k (a.den E / 2 ^ min (b.den E).toNat k.bits) ∧ v.wf E 0 := by
    intro b hb h
    cases hl : l.signed <;> rw [hl] at h <;> cases h
    have h0 := nonneg_of_unsigned hl hb
    refine ⟨h0, ?_, inR_ediv ha _⟩
    simp only [SV.den, SE.den, amt_ok E k b h0]
  cases b <;> try exact gen _ hb h
  rename_i y
  cases y with
  | negSucc _ => cases h
  | ofNat n =>
    cases h
    refine ⟨by simp [SE.den], ?_, ?_⟩
    · simp only [SV.den, mkShr_den, min_cond, natLit_den, Int.toNat_natCast]
    · simp only [SV.wf, mkShr_den]; exact inR_ediv ha _
theorem run_shl (w : World) (k l : IntKind) (x y : Int) (t : TypeId) (h : 0 ≤ y) : (binOp .shl t (.int k x) (.int l y)).run P w = .ok (.int k (k.wrap (x * 2 ^ min y.toNat k.bits))) w := by
  have : ¬ y < 0 := by omega
  simp [binOp, Op.shift, this]
theorem run_shr (w : World) (k l : IntKind) (x y : Int) (t : TypeId) (h : 0 ≤ y) : (binOp .shr t (.int k x) (.int l y)).run P w = .ok (.int k (x / 2 ^ min y.toNat k.bits)) w := by
  have : ¬ y < 0 := by omega
  have hp : (0 : Int) ≤ 2 ^ min y.toNat k.bits := Int.le_of_lt (two_pow_pos _)
  simp [binOp, Op.shift, this, Int.fdiv_eq_ediv_of_nonneg _ hp]
theorem eqGuard_int (w : World) (op : BinOp) (t : TypeId) (x y : Operand) (k : IntKind) (a : Int) (v : Value) : (eqGuard op t x y (.int k a) v).run P w = .ok () w := by cases op <;> rfl
theorem binI_ok {o : BinOp} {k : IntKind} {a b : SE} {v : SV} (h : binI o k a b = some v) (ha : inR k (a.den E)) (hb : inR k (b.den E)) (t : TypeId) (w : World) :
    (binOp o t (.int k (a.den E)) (.int k (b.den E))).run P w = .ok (v.den E loc) w ∧ v.wf E 0 := by
  cases o <;> simp only [binI] at h <;> try (cases h; done)
  case add => cases h; exact ⟨by simp [binOp, Op.intArith, SV.den, mkWrap_den, mkAdd_den], by simp only [SV.wf, mkWrap_den]; exact inR_wrap _ _⟩
  case sub => cases h; exact ⟨by simp [binOp, Op.intArith, SV.den, mkWrap_den, mkSub_den], by simp only [SV.wf, mkWrap_den]; exact inR_wrap _ _⟩
  case mul => cases h; exact ⟨by simp [binOp, Op.intArith, SV.den, mkWrap_den, mkMul_den], by simp only [SV.wf, mkWrap_den]; exact inR_wrap _ _⟩
  case quo =>
    obtain ⟨h1, h2, h3⟩ := quoI_ok E loc h ha
    exact ⟨by simp [binOp, Op.intDiv, h1, h2], h3⟩
  case rem =>
    obtain ⟨h1, h2, h3⟩ := remI_ok E loc h ha
    exact ⟨by simp [binOp, Op.intDiv, h1, h2], h3⟩
  case and => cases h; exact ⟨by simp only [binOp_and, intBits_and, Sem.run_pure, SV.den, mkAnd_den E k a b ha hb, bits_eq], by simp only [SV.wf, mkAnd_den E k a b ha hb]; exact inR_bitsI _ _ _ _⟩
  case or => cases h; exact ⟨by simp only [binOp_or, intBits_or, Sem.run_pure, SV.den, mkOr_den E k a b ha hb, bits_eq], by simp only [SV.wf, mkOr_den E k a b ha hb]; exact inR_bitsI _ _ _ _⟩
  case xor => cases h; exact ⟨by simp only [binOp_xor, intBits_xor, Sem.run_pure, SV.den, mkBit_den, bits_eq], by simp only [SV.wf, mkBit_den]; exact inR_bitsI _ _ _ _⟩
  case andNot => cases h; exact ⟨by simp only [binOp_andNot, intBits_andNot, Sem.run_pure, SV.den, mkBit_den, bits_eq], by simp only [SV.wf, mkBit_den]; exact inR_bitsI _ _ _ _⟩
  case eql => cases h; refine ⟨?_, trivial⟩; rw [binOp_eql, Sem.run_pure]; simp only [SV.den, mkEq_den]; by_cases h : a.den E = b.den E <;> simp [h]
  case neq => cases h; refine ⟨?_, trivial⟩; rw [binOp_neq, Sem.run_pure]; simp only [SV.den, mkNot_den, mkEq_den]; by_cases h : a.den E = b.den E <;> simp [h]
  case lss => cases h; refine ⟨?_, trivial⟩; rw [binOp_lss, Sem.run_pure]; simp only [SV.den, mkLt_den]; by_cases h : a.den E < b.den E <;> simp [h]
  case leq => cases h; refine ⟨?_, trivial⟩; rw [binOp_leq, Sem.run_pure]; simp only [SV.den, mkNot_den, mkLt_den]; by_cases h : b.den E < a.den E <;> simp [h] <;> omega
  case gtr => cases h; refine ⟨?_, trivial⟩; rw [binOp_gtr, Sem.run_pure]; simp only [SV.den, mkLt_den]; by_cases h : b.den E < a.den E <;> simp [h]
  case geq => cases h; refine ⟨?_, trivial⟩; rw [binOp_geq, Sem.run_pure]; simp only [SV.den, mkNot_den, mkLt_den]; by_cases h : a.den E < b.den E <;> simp [h] <;> omega

/-! two texts -/
theorem eqB_iff : ∀ (a b : List UInt8), eqB a b = true ↔ a = b := by
  intro a
  induction a with
  | nil => intro b; cases b <;> simp [eqB]
  | cons x a ih =>
    intro b
    cases b with
    | nil => simp [eqB]
    | cons y b =>
      simp only [eqB]
      cases h : Nat.beq x.toNat y.toNat
      · simp only [cond, Bool.false_eq_true, false_iff]
        intro e
        injection e with e1 _
        rw [e1, Nat.beq_refl] at h
        cases h
      · have e1 : x = y := UInt8.toNat_inj.1 (Nat.eq_of_beq_eq_true h)
        simp only [cond, ih]
        simp [e1]
theorem eqB_dec (a b : List UInt8) : eqB a b = decide (a = b) := by
  by_cases h : a = b
  · rw [(eqB_iff a b).2 h]; simp [h]
  · cases h1 : eqB a b
    · simp [h]
    · exact absurd ((eqB_iff a b).1 h1) h
theorem litB_den (b : Bool) : (litB b).den E loc = .bool b := by cases b <;> rfl
theorem toList_str (a : List UInt8) : (ByteArray.mk a.toArray).toList = a := by rw [ByteArray.toList_eq]
theorem eqGuard_str (w : World) (op : BinOp) (t : TypeId) (x y : Operand) (a : ByteArray) (v : Value) : (eqGuard op t x y (.string a) v).run P w = .ok () w := by cases op <;> rfl
theorem binT_ok {o : BinOp} {a b : List UInt8} {v : SV} (h : binT o a b = some v) (t : TypeId) (w : World) :
    (binOp o t (.string ⟨a.toArray⟩) (.string ⟨b.toArray⟩)).run P w = .ok (v.den E loc) w ∧ v.wf E 0 := by
  cases o <;> simp only [binT] at h <;> try (cases h; done)
  case add =>
    cases h1 : Nat.ble (Nat.add a.length b.length) many <;> rw [h1] at h <;> cases h
    have h2 : a.length + b.length ≤ many := Nat.le_of_ble_eq_true h1
    refine ⟨?_, trivial⟩
    have h3 : ¬ (((ByteArray.mk a.toArray).size + (ByteArray.mk b.toArray).size : Nat) : Int) > IntKind.i64.max := by
      have e1 : (ByteArray.mk a.toArray).size = a.length := by simp [ByteArray.size]
      have e2 : (ByteArray.mk b.toArray).size = b.length := by simp [ByteArray.size]
      rw [e1, e2]
      simp [IntKind.max, IntKind.signed, IntKind.bits]
      simp [many] at h2
      omega
    simp only [binOp, Op.stringOp]
    rw [if_neg h3]
    simp [SV.den]
    rfl
  case eql =>
    cases h
    refine ⟨?_, by cases eqB a b <;> trivial⟩
    simp only [binOp, Op.stringOp, litB_den, toList_str, eqB_dec]
    by_cases h : a = b <;> simp [h]
  case neq =>
    cases h
    refine ⟨?_, by cases eqB a b <;> trivial⟩
    simp only [binOp, Op.stringOp, litB_den, toList_str, eqB_dec]
    by_cases h : a = b <;> simp [h]

/-! structs of numbers and bools -/
theorem descKind_int {t : TypeId} {k : IntKind} (h : descKind P t = cellKind (.int k (.lit 0))) : P.underlying t = some (.int k) := by
  unfold descKind at h
  split at h
  · rename_i k' hu
    rw [hu]
    cases k <;> cases k' <;> first | rfl | (simp [cellKind] at h)
  · cases k <;> simp [cellKind] at h
  · cases k <;> simp [cellKind] at h
theorem descKind_bool {t : TypeId} (h : descKind P t = 9) : P.underlying t = some .bool := by
  unfold descKind at h
  split at h
  · rename_i k' hu
    cases k' <;> simp at h
  · assumption
  · simp at h
theorem run_part_plain (w : World) (t : TypeId) (cs : Array Value) (off : Nat) (v : Value) (hu : (∃ k, P.underlying t = some (.int k)) ∨ P.underlying t = some .bool) (hv : cs[off]? = some v) : (part t cs off).run P w = .ok v w := by
  rcases hu with ⟨k, hu⟩ | hu <;> simp [part, isAgg, run_underlying hu, hv]
theorem cellKind_int {k l : IntKind} {a b : SE} (h : cellKind (.int k a) = cellKind (.int l b)) : k = l := by
  cases k <;> cases l <;> first | rfl | (simp [cellKind] at h)
theorem eqFields_ok (d : Nat) (w : World) : ∀ (fs : List Field) (i : Nat) (a b : List SV) (e : SE) (xs ys : Array Value), flatFields P i fs a b = true → eqCells a b = some e →
    (∀ j v, a[j]? = some v → xs[i + j]? = some (v.den E loc)) → (∀ j v, b[j]? = some v → ys[i + j]? = some (v.den E loc)) →
    (Op.eqFields (d + 1) xs ys fs).run P w = .ok (decide (e.den E ≠ 0)) w := by
  intro fs
  induction fs with
  | nil =>
    intro i a b e xs ys h1 h2 _ _
    cases a <;> cases b <;> simp [flatFields] at h1
    simp only [eqCells, Option.some.injEq] at h2
    subst h2
    rfl
  | cons f fs ih =>
    intro i a b e xs ys h1 h2 ha hb
    cases a with
    | nil => simp [flatFields] at h1
    | cons x a =>
      cases b with
      | nil => simp [flatFields] at h1
      | cons y b =>
        simp only [flatFields] at h1
        cases g1 : Nat.beq f.offset i <;> rw [g1] at h1 <;> try (cases h1; done)
        simp only [cond] at h1
        by_cases g2 : f.name = "_"
        · rw [decide_eq_true g2] at h1; cases h1
        rw [decide_eq_false g2] at h1
        simp only at h1
        cases g3 : Nat.beq (descKind P f.type) (cellKind x) <;> rw [g3] at h1 <;> try (cases h1; done)
        cases g4 : Nat.beq (descKind P f.type) (cellKind y) <;> rw [g4] at h1 <;> try (cases h1; done)
        cases g5 : Nat.beq (cellKind x) 0 <;> rw [g5] at h1 <;> try (cases h1; done)
        simp only at h1
        have o1 := Nat.eq_of_beq_eq_true g1
        have k1 := Nat.eq_of_beq_eq_true g3
        have k2 := Nat.eq_of_beq_eq_true g4
        have xa := ha 0 x rfl
        have yb := hb 0 y rfl
        simp only [Nat.add_zero] at xa yb
        have ha' : ∀ j v, a[j]? = some v → xs[i + 1 + j]? = some (v.den E loc) := fun j v hj => by
          have := ha (j + 1) v hj
          rwa [show i + (j + 1) = i + 1 + j by omega] at this
        have hb' : ∀ j v, b[j]? = some v → ys[i + 1 + j]? = some (v.den E loc) := fun j v hj => by
          have := hb (j + 1) v hj
          rwa [show i + (j + 1) = i + 1 + j by omega] at this
        simp only [Op.eqFields, ne_eq, g2, not_false_eq_true, if_true, o1]
        cases x <;> try (simp [cellKind] at g5; done)
        case bool p =>
          have hu := descKind_bool P k1
          cases y <;> try (rw [k1] at k2; rename_i k _; cases k <;> simp [cellKind] at k2; done)
          all_goals try (rw [k1] at k2; simp [cellKind] at k2; done)
          rename_i q
          simp only [eqCells] at h2
          cases hr : eqCells a b with
          | none => rw [hr] at h2; cases h2
          | some e' =>
            rw [hr] at h2
            cases h2
            have hrest := ih (i + 1) a b e' xs ys h1 hr ha' hb'
            simp only [SV.den] at xa yb
            simp only [Sem.run_bind, run_part_plain P w f.type xs i _ (.inr hu) xa, run_part_plain P w f.type ys i _ (.inr hu) yb, Result.andThen_ok, run_equalIn_bool' w d f.type _ _ hu, mkIte_den, mkEqB_den, Sem.run_ite, Sem.run_pure, hrest, SE.den]
            by_cases z1 : p.den E = 0 <;> by_cases z2 : q.den E = 0 <;> simp [z1, z2]
        case int k p =>
          have hu : P.underlying f.type = some (.int k) := descKind_int P (by rw [k1]; cases k <;> rfl)
          cases y <;> try (rw [k1] at k2; cases k <;> simp [cellKind] at k2; done)
          rename_i l q
          have hkl : k = l := cellKind_int (by rw [← k1, k2])
          subst hkl
          simp only [eqCells] at h2
          cases hr : eqCells a b with
          | none => rw [hr] at h2; cases h2
          | some e' =>
            rw [hr] at h2
            cases h2
            have hrest := ih (i + 1) a b e' xs ys h1 hr ha' hb'
            simp only [SV.den] at xa yb
            simp only [Sem.run_bind, run_part_plain P w f.type xs i _ (.inl ⟨k, hu⟩) xa, run_part_plain P w f.type ys i _ (.inl ⟨k, hu⟩) yb, Result.andThen_ok, run_equalIn_int w d f.type k k _ _ hu, mkIte_den, mkEq_den, Sem.run_ite, Sem.run_pure, hrest, SE.den]
            by_cases z1 : p.den E = q.den E <;> simp [z1]
theorem getElem?_denL {l : List SV} {j : Nat} {v : SV} (h : l[j]? = some v) : (denL E loc l).toArray[j]? = some (v.den E loc) := by
  simp [denL_eq, h]
theorem eqAgg_ok {t : TypeId} {a b : List SV} {e : SE} (h : eqAgg P t a b = some e) (w : World) (o : BinOp) (x y : Operand) :
    (eqGuard o t x y (.agg (denL E loc a).toArray) (.agg (denL E loc b).toArray)).run P w = .ok () w ∧
    (Op.equalIn 10000 t (.agg (denL E loc a).toArray) (.agg (denL E loc b).toArray)).run P w = .ok (decide (e.den E ≠ 0)) w := by
  unfold eqAgg at h
  split at h
  · rename_i fs hu
    cases h1 : flatFields P 0 fs.toList a b <;> rw [h1] at h <;> try (cases h; done)
    cases h2 : P.stoodInHeld t <;> rw [h2] at h <;> try (cases h; done)
    cases h3 : P.eqGuardType P.depth t <;> rw [h3] at h <;> try (cases h; done)
    have hf : P.fieldsOf t = fs := by simp [Program.fieldsOf, hu]
    refine ⟨run_eqGuard_agg w o t x y _ _ h3, ?_⟩
    rw [run_equalIn_struct w 9999 t _ _ (by rw [hf]; exact hu) h2, hf]
    exact eqFields_ok E loc P 9998 w fs.toList 0 a b e _ _ h1 h (fun j v hj => by rw [Nat.zero_add]; exact getElem?_denL E loc hj) (fun j v hj => by rw [Nat.zero_add]; exact getElem?_denL E loc hj)
  · cases h
theorem eqGuard_bool' (w : World) (op : BinOp) (t : TypeId) (x y : Operand) (a : Bool) (v : Value) : (eqGuard op t x y (.bool a) v).run P w = .ok () w := by cases op <;> rfl
theorem run_eql_bool' (w : World) (t : TypeId) (a b : Bool) (h : P.underlying t = some .bool) : (binOp .eql t (.bool a) (.bool b)).run P w = .ok (.bool (a == b)) w := by
  simp only [binOp]
  simp [Op.equal, Op.maxDepth, run_equalIn_bool' w 9999 t a b h]
theorem run_neq_bool' (w : World) (t : TypeId) (a b : Bool) (h : P.underlying t = some .bool) : (binOp .neq t (.bool a) (.bool b)).run P w = .ok (.bool (!(a == b))) w := by
  simp only [binOp]
  simp [Op.equal, Op.maxDepth, run_equalIn_bool' w 9999 t a b h]
theorem binS_ok {nx : Nat} {o : BinOp} {t : TypeId} {x y v : SV} (h : binS P o t x y = some v) (hx : x.wf E nx) (hy : y.wf E nx) (w : World) (p q : Operand) :
    (do eqGuard o t p q (x.den E loc) (y.den E loc); binOp o t (x.den E loc) (y.den E loc) : Sem Value).run P w = .ok (v.den E loc) w ∧ v.wf E 0 := by
  cases x <;> simp only [binS] at h <;> try (cases h; done)
  case int k a =>
    cases y <;> (try simp only at h) <;> try (cases h; done)
    rename_i l b
    simp only [SV.den, Sem.run_bind, eqGuard_int, Result.andThen_ok]
    have gen : (cond (decide (k = l)) (binI o k a b) none) = some v → (binOp o t (.int k (a.den E)) (.int l (b.den E))).run P w = .ok (v.den E loc) w ∧ v.wf E 0 := by
      intro h
      by_cases hkl : k = l
      · subst hkl
        simp only [decide_true, cond] at h
        exact binI_ok E loc P h hx hy t w
      · simp [hkl] at h
    cases o <;> try exact gen h
    case shl =>
      obtain ⟨h1, h2, h3⟩ := shlI_ok E loc h hy
      exact ⟨by rw [run_shl P w k l _ _ t h1, h2], h3⟩
    case shr =>
      obtain ⟨h1, h2, h3⟩ := shrI_ok E loc h hx hy
      exact ⟨by rw [run_shr P w k l _ _ t h1, h2], h3⟩
  case str a =>
    cases y <;> (try simp only at h) <;> try (cases h; done)
    rename_i b
    simp only [SV.den, Sem.run_bind, eqGuard_str, Result.andThen_ok]
    exact binT_ok E loc P h t w
  case bool a =>
    cases y <;> (try simp only at h) <;> try (cases h; done)
    rename_i b
    cases hk : Nat.beq (descKind P t) 9 <;> rw [hk] at h <;> try (cases h; done)
    have hu := descKind_bool P (Nat.eq_of_beq_eq_true hk)
    simp only [SV.den, Sem.run_bind, eqGuard_bool', Result.andThen_ok]
    cases o <;> (try simp only [cond] at h) <;> try (cases h; done)
    case eql =>
      cases h
      refine ⟨?_, trivial⟩
      rw [run_eql_bool' P w t _ _ hu]
      simp only [SV.den, mkEqB_den]
      by_cases z1 : a.den E = 0 <;> by_cases z2 : b.den E = 0 <;> simp [z1, z2]
    case neq =>
      cases h
      refine ⟨?_, trivial⟩
      rw [run_neq_bool' P w t _ _ hu]
      simp only [SV.den, mkNot_den, mkEqB_den]
      by_cases z1 : a.den E = 0 <;> by_cases z2 : b.den E = 0 <;> simp [z1, z2]
  case agg a =>
    cases y <;> (try simp only at h) <;> try (cases h; done)
    rename_i b
    cases he : eqAgg P t a b with
    | none => rw [he] at h; cases h
    | some e =>
      rw [he] at h
      obtain ⟨g1, g2⟩ := eqAgg_ok E loc P he w o p q
      simp only [SV.den, Sem.run_bind, g1, Result.andThen_ok]
      cases o <;> (try simp only at h) <;> try (cases h; done)
      case eql =>
        cases h
        refine ⟨?_, trivial⟩
        rw [run_eql_struct, g2]
        rfl
      case neq =>
        cases h
        refine ⟨?_, trivial⟩
        rw [run_neq_struct, g2]
        simp only [Result.andThen_ok, SV.den, mkNot_den]
        by_cases z1 : e.den E = 0 <;> simp [z1]

end Sx
end Go.Proofs.YtfdggebddcoeeaaGreatDoor
end
