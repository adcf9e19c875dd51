/-
  What is told of all lanes: a sum without carries bit by bit; lists of lanes; the sign bits in a row.
-/
import Derived.Test.YtfdggebddcoeeaaGreatDoorTyLw
set_option linter.unusedVariables false
set_option linter.unusedSimpArgs false
set_option maxRecDepth 100000
noncomputable section
namespace Go.Proofs.YtfdggebddcoeeaaGreatDoor
namespace Sx
open Go Go.RowKit
variable (E : Env)

/-! a sum of two numbers that have no bit in common -/
theorem add_bits : ∀ (m : Nat) {L R : Int}, (0 ≤ L ∧ L < 2 ^ m) → (0 ≤ R ∧ R < 2 ^ m) → (∀ j, j < m → ibit L j * ibit R j = 0) → L + R < 2 ^ m ∧ ∀ i, ibit (L + R) i = ibit L i + ibit R i := by
  intro m
  induction m with
  | zero =>
    intro L R hL hR _
    simp at hL hR
    have h1 : L = 0 := by omega
    have h2 : R = 0 := by omega
    subst h1 h2
    exact ⟨by simp, fun i => by simp [ibit_zero']⟩
  | succ m ih =>
    intro L R hL hR h
    rw [Int.pow_succ] at hL hR ⊢
    have h0 := h 0 (by omega)
    rw [ibit_zero, ibit_zero] at h0
    have hd : ∀ j, j < m → ibit (L / 2) j * ibit (R / 2) j = 0 := fun j hj => by rw [← ibit_succ, ← ibit_succ]; exact h (j + 1) (by omega)
    obtain ⟨h1, h2⟩ := ih (L := L / 2) (R := R / 2) ⟨by omega, by omega⟩ ⟨by omega, by omega⟩ hd
    have hlr : L % 2 + R % 2 ≤ 1 := by
      rcases Int.mul_eq_zero.1 h0 with h0 | h0 <;> omega
    have hdiv : (L + R) / 2 = L / 2 + R / 2 := by omega
    refine ⟨by omega, fun i => ?_⟩
    cases i with
    | zero => rw [ibit_zero, ibit_zero, ibit_zero]; omega
    | succ i => rw [ibit_succ, ibit_succ, ibit_succ, hdiv]; exact h2 i
/-- have two bits nothing in common? -/
def disjB (p q : BF) : Bool := match p with
  | .and _ c => match q with
    | .and _ d => match d with
      | .not d => BF.beq c d
      | _ => false
    | _ => false
  | _ => false
theorem disj_val (a b c : BF) : (BF.and a c).val E * (BF.and b (.not c)).val E = 0 := by
  simp only [BF.val]
  rcases BF.val01 E c with h1 | h1 <;> rw [h1] <;> simp
theorem disjB_ok {p q : BF} (h : disjB p q = true) : p.val E * q.val E = 0 := by
  unfold disjB at h
  split at h
  · split at h
    · split at h
      · rw [BF.beq_eq h]
        exact disj_val E _ _ _
      · cases h
    · cases h
  · cases h
def bitP (x : SE) (i : Nat) : BF := match x with
  | .md y m => match y with
    | .wrap k s => match k with
      | .u64 => match s with
        | .add L R => cond (and (Nat.ble m 63) (and (leO (ub L) m) (and (leO (ub R) m) (allN (fun j => disjB (bitC L j) (bitC R j)) m)))) (cond (Nat.blt i m) (mkOrB (bitC L i) (bitC R i)) (.c false)) (bitC (.md (.wrap .u64 (.add L R)) m) i)
        | s => bitC (.md (.wrap .u64 s) m) i
      | k => bitC (.md (.wrap k s) m) i
    | y => bitC (.md y m) i
  | x => bitC x i
theorem bitP_add (L R : SE) (m i : Nat) : (cond (and (Nat.ble m 63) (and (leO (ub L) m) (and (leO (ub R) m) (allN (fun j => disjB (bitC L j) (bitC R j)) m)))) (cond (Nat.blt i m) (mkOrB (bitC L i) (bitC R i)) (.c false)) (bitC (.md (.wrap .u64 (.add L R)) m) i)).val E = ibit ((SE.md (.wrap .u64 (.add L R)) m).den E) i := by
  cases hc : (and (Nat.ble m 63) (and (leO (ub L) m) (and (leO (ub R) m) (allN (fun j => disjB (bitC L j) (bitC R j)) m))))
  · exact bitC_ok E _ _
  · simp only [Bool.and_eq_true] at hc
    obtain ⟨c0, c1, c2, c3⟩ := hc
    have hm := Nat.le_of_ble_eq_true c0
    have hL := leO_ok E c1
    have hR := leO_ok E c2
    obtain ⟨h1, h2⟩ := add_bits m hL hR fun j hj => by
      rw [← bitC_ok, ← bitC_ok]
      exact disjB_ok E (allN_ok c3 j hj)
    have hp := two_pow_mono (show m ≤ 64 by omega)
    have e1 : (SE.md (.wrap .u64 (.add L R)) m).den E = L.den E + R.den E := by
      simp only [SE.den, wrap_unsigned (k := .u64) rfl, IntKind.bits]
      rw [emod_small (n := 64) ⟨by omega, by omega⟩, emod_small ⟨by omega, h1⟩]
    rw [e1, h2]
    cases hlt : Nat.blt i m
    · have := blt_not hlt
      rw [ibit_big hL this, ibit_big hR this]
      rfl
    · simp only [cond]
      rw [mkOrB_val, bitC_ok, bitC_ok]
      have : ibit (L.den E) i * ibit (R.den E) i = 0 := by
        rw [← bitC_ok, ← bitC_ok]
        exact disjB_ok E (allN_ok c3 i (blt_yes hlt))
      omega
theorem bitP_ok (x : SE) (i : Nat) : (bitP x i).val E = ibit (x.den E) i := by
  unfold bitP
  repeat' split
  all_goals first
    | exact bitC_ok E _ _
    | exact bitP_add E _ _ _ _
def bitS : SE → Nat → BF
  | .cat x b r, i => cond (Nat.blt i b) (bitP x i) (bitS r (Nat.sub i b))
  | e, i => bitP e i
theorem bitS_ok (e : SE) : ∀ i, (bitS e i).val E = ibit (e.den E) i := by
  induction e <;> intro i <;> try exact bitP_ok E _ i
  case cat x b r _ ihr =>
    simp only [bitS, SE.den]
    cases hlt : Nat.blt i b
    · simp only [cond, ihr]
      exact (ibit_cat_high _ _ (blt_not hlt)).symm
    · simp only [cond, bitP_ok]
      exact (ibit_cat_low _ _ (blt_yes hlt)).symm
def sameS (n : Nat) (a b : SE) : Bool := cond (leO (ub a) n) (cond (leO (ub b) n) (allN (fun i => BF.beq (bitS a i) (bitS b i)) n) false) false
theorem sameS_ok {n : Nat} {a b : SE} (h : sameS n a b = true) : a.den E = b.den E := by
  unfold sameS at h
  cases h1 : leO (ub a) n <;> rw [h1] at h <;> try (cases h; done)
  cases h2 : leO (ub b) n <;> rw [h2] at h <;> try (cases h; done)
  refine eq_of_bits n (leO_ok E h1) (leO_ok E h2) fun i hi => ?_
  rw [← bitS_ok, ← bitS_ok, BF.beq_eq (allN_ok h i hi)]
/-- two words, bit by bit -/
def two64 (e : SE) : Bool := match e with
  | .ite c x y => match c with
    | .eq a b => match x with
      | .eq p q => cond (sameS 64 a b) (sameS 64 p q) false
      | _ => false
    | _ => false
  | _ => false
theorem two64_ok {e : SE} (h : two64 e = true) : e.den E = 1 := by
  unfold two64 at h
  split at h
  · split at h
    · split at h
      · rename_i a b _ p q
        cases h1 : sameS 64 a b <;> rw [h1] at h <;> try (cases h; done)
        simp only [SE.den, sameS_ok E h1, sameS_ok E h]
        simp
      · cases h
    · cases h
  · cases h

/-! are all lanes not 0? -/
def chainC : List SE → Nat → SE
  | [], _ => .lit (-1)
  | x :: t, i => .ite (.eq (.lit 0) x) (.lit (.ofNat i)) (chainC t (i + 1))
def chainY : List SE → SE
  | [] => .lit 1
  | x :: t => match t with
    | [] => .eq (.eq x (.lit 0)) (.lit 0)
    | _ => .ite (.eq x (.lit 0)) (.lit 0) (chainY t)
def allE (l : List SE) : SE := .eq (.eq (.eq (.lt (chainC l 0) (.lit 0)) (.lit 0)) (.lit 0)) (chainY l)
theorem ite0_den (x a b : SE) : (SE.ite (.eq (.lit 0) x) a b).den E = if x.den E = 0 then a.den E else b.den E := by
  by_cases h : x.den E = 0
  · simp [SE.den, h]
  · have : ¬ (0 : Int) = x.den E := fun e => h e.symm
    simp [SE.den, h, this]
theorem chainC_den : ∀ (l : List SE) (i : Nat), ((∀ x ∈ l, x.den E ≠ 0) → (chainC l i).den E < 0) ∧ (¬ (∀ x ∈ l, x.den E ≠ 0) → 0 ≤ (chainC l i).den E) := by
  intro l
  induction l with
  | nil => intro i; exact ⟨fun _ => by simp [chainC, SE.den], fun h => absurd (fun x hx => by cases hx) h⟩
  | cons x l ih =>
    intro i
    obtain ⟨h1, h2⟩ := ih (i + 1)
    simp only [chainC, ite0_den]
    by_cases hx : x.den E = 0
    · rw [if_pos hx]
      refine ⟨fun h => absurd hx (h x List.mem_cons_self), fun _ => by simp [SE.den]⟩
    · rw [if_neg hx]
      refine ⟨fun h => h1 fun y hy => h y (List.mem_cons_of_mem _ hy), fun h => h2 fun h' => h fun y hy => ?_⟩
      rcases List.mem_cons.1 hy with rfl | hy
      · exact hx
      · exact h' y hy
theorem chainY_den : ∀ l : List SE, (chainY l).den E = if (∀ x ∈ l, x.den E ≠ 0) then 1 else 0 := by
  intro l
  induction l with
  | nil => simp [chainY, SE.den]
  | cons x l ih =>
    by_cases hx : x.den E = 0
    · have hn : ¬ ∀ y ∈ x :: l, y.den E ≠ 0 := fun h => h x List.mem_cons_self hx
      rw [if_neg hn]
      cases l <;> simp [chainY, SE.den, hx]
    · have hiff : (∀ y ∈ x :: l, y.den E ≠ 0) ↔ ∀ y ∈ l, y.den E ≠ 0 := ⟨fun h y hy => h y (List.mem_cons_of_mem _ hy), fun h y hy => by
        rcases List.mem_cons.1 hy with rfl | hy
        · exact hx
        · exact h y hy⟩
      simp only [hiff]
      rw [← ih]
      cases l with
      | nil => simp [chainY, SE.den, hx]
      | cons y l => simp [chainY, SE.den, hx]
theorem allE_den (l : List SE) : (allE l).den E = 1 := by
  unfold allE
  obtain ⟨h1, h2⟩ := chainC_den E l 0
  simp only [SE.den, chainY_den]
  by_cases h : ∀ x ∈ l, x.den E ≠ 0
  · have := h1 h
    rw [if_pos h]
    simp [this]
  · have := h2 h
    have h3 : ¬ (chainC l 0).den E < 0 := by omega
    rw [if_neg h]
    simp [h3]

/-! is any lane not 0? -/
def anyY : List SE → SE
  | [] => .lit 0
  | x :: t => match t with
    | [] => .lt (.lit 0) x
    | _ => .ite (.lt (.lit 0) x) (.lit 1) (anyY t)
def anyE (v w : SE) (l : List SE) : SE := .eq (.eq (.eq (.bit .or .u64 v w) (.lit 0)) (.lit 0)) (anyY l)
theorem anyY_den : ∀ l : List SE, (∀ x ∈ l, 0 ≤ x.den E) → (anyY l).den E = if (∀ x ∈ l, x.den E = 0) then 0 else 1 := by
  intro l
  induction l with
  | nil => intro _; simp [anyY, SE.den]
  | cons x l ih =>
    intro hp
    have hx0 := hp x List.mem_cons_self
    have ih' := ih fun y hy => hp y (List.mem_cons_of_mem _ hy)
    by_cases hx : x.den E = 0
    · have hiff : (∀ y ∈ x :: l, y.den E = 0) ↔ ∀ y ∈ l, y.den E = 0 := ⟨fun h y hy => h y (List.mem_cons_of_mem _ hy), fun h y hy => by
        rcases List.mem_cons.1 hy with rfl | hy
        · exact hx
        · exact h y hy⟩
      simp only [hiff]
      rw [← ih']
      cases l with
      | nil => simp [anyY, SE.den, hx]
      | cons y l => simp [anyY, SE.den, hx]
    · have hn : ¬ ∀ y ∈ x :: l, y.den E = 0 := fun h => hx (h x List.mem_cons_self)
      rw [if_neg hn]
      have hpos : 0 < x.den E := by omega
      cases l <;> simp [anyY, SE.den, hpos]
theorem or_zero_iff {x y : Int} (hx : 0 ≤ x ∧ x < 2 ^ 64) (hy : 0 ≤ y ∧ y < 2 ^ 64) : bitsI .or .u64 x y = 0 ↔ x = 0 ∧ y = 0 := by
  constructor
  · intro h
    have hb : ∀ i, i < 64 → ibit x i = 0 ∧ ibit y i = 0 := fun i hi => by
      have h1 := ibit_or (k := .u64) rfl x y hi
      rw [h, ibit_zero'] at h1
      rcases ibit_01 x i with a | a <;> rcases ibit_01 y i with b | b <;> rw [a, b] at h1 <;> simp at h1
      exact ⟨a, b⟩
    exact ⟨eq_of_bits 64 hx ⟨by decide, by decide⟩ fun i hi => by rw [(hb i hi).1, ibit_zero'], eq_of_bits 64 hy ⟨by decide, by decide⟩ fun i hi => by rw [(hb i hi).2, ibit_zero']⟩
  · rintro ⟨rfl, rfl⟩
    rfl

/-! the sign bits in a row -/
/-- the signs of lanes as a number, the first lane's the lowest -/
def signsN (n : Nat) : List SE → SE
  | [] => .lit 0
  | x :: t => match t with
    | [] => mkShr x (n - 1)
    | _ => .cat (mkShr x (n - 1)) 1 (signsN n t)
/-- the same as the reference makes it, its rest as a row -/
def signsR (n : Nat) : List SE → SE
  | [] => .lit 0
  | x :: t => match t with
    | [] => .lt (.wrap (kindS n) x) (.lit 0)
    | _ => mkIte (.lt (.wrap (kindS n) x) (.lit 0)) (mkWrap .u64 (mkAdd (mkShl (signsN n t) 1) (.lit 1))) (mkShl (signsN n t) 1)
/-- each rest doubled, known -/
def signsK (n : Nat) : List SE → List (SE × SE)
  | [] => []
  | x :: t => match t with
    | [] => []
    | _ => (mkWrap .u64 (mkMul (signsR n t) (.lit 2)), mkShl (signsN n t) 1) :: signsK n t
def maskE (n : Nat) (l : List SE) : SE := .eq (signsN n l) (mkMd (signsR n l) 32)
theorem wrap_sign {n : Nat} (hn : n = 8 ∨ n = 16 ∨ n = 32 ∨ n = 64) {x : Int} (hx : 0 ≤ x ∧ x < 2 ^ n) : x / 2 ^ (n - 1) = if (kindS n).wrap x < 0 then 1 else 0 := by
  rcases hn with rfl | rfl | rfl | rfl
  · rw [show kindS 8 = .i8 from rfl]; simp [IntKind.wrap, IntKind.bits, IntKind.signed] at *; omega
  · rw [show kindS 16 = .i16 from rfl]; simp [IntKind.wrap, IntKind.bits, IntKind.signed] at *; omega
  · rw [show kindS 32 = .i32 from rfl]; simp [IntKind.wrap, IntKind.bits, IntKind.signed] at *; omega
  · rw [show kindS 64 = .i64 from rfl]; simp [IntKind.wrap, IntKind.bits, IntKind.signed] at *; omega
/-- the sign of a lane, as the test tells it -/
theorem sign_cases {n : Nat} (hn : n = 8 ∨ n = 16 ∨ n = 32 ∨ n = 64) {x : SE} (hx : 0 ≤ x.den E ∧ x.den E < 2 ^ n) : ((mkShr x (n - 1)).den E = 1 ∧ (SE.lt (.wrap (kindS n) x) (.lit 0)).den E = 1) ∨ ((mkShr x (n - 1)).den E = 0 ∧ (SE.lt (.wrap (kindS n) x) (.lit 0)).den E = 0) := by
  have hs := wrap_sign hn hx
  rw [mkShr_den, hs]
  by_cases h : (kindS n).wrap (x.den E) < 0
  · left; simp [SE.den, h]
  · right; simp [SE.den, h]
theorem signs_small {n : Nat} (hn : n = 8 ∨ n = 16 ∨ n = 32 ∨ n = 64) : ∀ {l : List SE}, (∀ x ∈ l, 0 ≤ x.den E ∧ x.den E < 2 ^ n) → 0 ≤ (signsN n l).den E ∧ (signsN n l).den E < 2 ^ l.length := by
  intro l
  induction l with
  | nil => intro _; simp [signsN, SE.den]
  | cons x l ih =>
    intro h
    have hx := h x List.mem_cons_self
    have hs := sign_cases E hn hx
    have h1 := ih fun y hy => h y (List.mem_cons_of_mem _ hy)
    cases l with
    | nil =>
      simp only [signsN, List.length_singleton]
      rcases hs with ⟨h2, _⟩ | ⟨h2, _⟩ <;> rw [h2] <;> simp
    | cons y l =>
      have e : (2 : Int) ^ (x :: y :: l).length = 2 ^ (y :: l).length * 2 := Int.pow_succ ..
      have e2 : (signsN n (x :: y :: l)).den E = (mkShr x (n - 1)).den E % 2 ^ 1 + 2 ^ 1 * (signsN n (y :: l)).den E := rfl
      rw [e, e2]
      generalize (2 : Int) ^ (y :: l).length = P at *
      generalize (signsN n (y :: l)).den E = N at *
      rcases hs with ⟨h2, _⟩ | ⟨h2, _⟩ <;> rw [h2] <;> simp <;> omega
theorem signs_eq {n : Nat} (hn : n = 8 ∨ n = 16 ∨ n = 32 ∨ n = 64) : ∀ {l : List SE}, l.length ≤ 16 → (∀ x ∈ l, 0 ≤ x.den E ∧ x.den E < 2 ^ n) → (signsR n l).den E = (signsN n l).den E := by
  intro l hlen h
  cases l with
  | nil => rfl
  | cons x t =>
    have hx := h x List.mem_cons_self
    have hs := sign_cases E hn hx
    cases t with
    | nil =>
      show (SE.lt (.wrap (kindS n) x) (.lit 0)).den E = (mkShr x (n - 1)).den E
      rcases hs with ⟨h2, h3⟩ | ⟨h2, h3⟩ <;> rw [h2, h3]
    | cons y t =>
      have h1 := signs_small E hn (l := y :: t) fun z hz => h z (List.mem_cons_of_mem _ hz)
      have h2 : (2 : Int) ^ (y :: t).length ≤ 2 ^ 16 := two_pow_mono (by simp at hlen ⊢; omega)
      have e1 : (signsR n (x :: y :: t)).den E = if (SE.lt (.wrap (kindS n) x) (.lit 0)).den E = 0 then (signsN n (y :: t)).den E * 2 ^ 1 else IntKind.u64.wrap ((signsN n (y :: t)).den E * 2 ^ 1 + 1) := by
        have e0 : signsR n (x :: y :: t) = mkIte (.lt (.wrap (kindS n) x) (.lit 0)) (mkWrap .u64 (mkAdd (mkShl (signsN n (y :: t)) 1) (.lit 1))) (mkShl (signsN n (y :: t)) 1) := by simp [signsR]
        rw [e0, mkIte_den, mkWrap_den, mkAdd_den, mkShl_den]
        rfl
      have e2 : (signsN n (x :: y :: t)).den E = (mkShr x (n - 1)).den E % 2 ^ 1 + 2 ^ 1 * (signsN n (y :: t)).den E := rfl
      rw [e1, e2]
      generalize (signsN n (y :: t)).den E = N at *
      rw [wrap_unsigned rfl, emod_small (n := IntKind.u64.bits) ⟨by omega, by simp only [IntKind.bits]; omega⟩]
      rcases hs with ⟨h3, h4⟩ | ⟨h3, h4⟩ <;> rw [h3, h4] <;> simp <;> omega
theorem signsK_holds {n : Nat} (hn : n = 8 ∨ n = 16 ∨ n = 32 ∨ n = 64) : ∀ {l : List SE}, l.length ≤ 16 → (∀ x ∈ l, 0 ≤ x.den E ∧ x.den E < 2 ^ n) → ∀ p ∈ signsK n l, p.1.den E = p.2.den E := by
  intro l
  induction l with
  | nil => intro _ _ p hp; cases hp
  | cons x t ih =>
    intro hlen h p hp
    cases t with
    | nil => cases hp
    | cons y t =>
      have ht : ∀ z ∈ y :: t, 0 ≤ z.den E ∧ z.den E < 2 ^ n := fun z hz => h z (List.mem_cons_of_mem _ hz)
      have hl : (y :: t).length ≤ 16 := by simp at hlen ⊢; omega
      rcases List.mem_cons.1 hp with rfl | hp
      · have h1 := signs_small E hn ht
        have h2 : (2 : Int) ^ (y :: t).length ≤ 2 ^ 16 := two_pow_mono hl
        rw [mkWrap_den, mkMul_den, signs_eq E hn hl ht, mkShl_den]
        simp only [SE.den]
        rw [wrap_unsigned rfl, emod_small (n := IntKind.u64.bits) ⟨by omega, by simp only [IntKind.bits]; omega⟩]
        simp
      · exact ih hl ht p hp
theorem maskE_den {n : Nat} (hn : n = 8 ∨ n = 16 ∨ n = 32 ∨ n = 64) {l : List SE} (hlen : l.length ≤ 16) (h : ∀ x ∈ l, 0 ≤ x.den E ∧ x.den E < 2 ^ n) : (maskE n l).den E = 1 := by
  have h1 := signs_small E hn h
  have h2 : (2 : Int) ^ l.length ≤ 2 ^ 16 := two_pow_mono hlen
  simp only [maskE, SE.den, mkMd_den, signs_eq E hn hlen h]
  rw [emod_small (n := 32) ⟨h1.1, by omega⟩]
  simp

end Sx
end Go.Proofs.YtfdggebddcoeeaaGreatDoor
end
