/-
  LanesBits: what a run may leave to show.
-/
import Derived.Test.YtfdggebddcoeeaaGreatDoorTyBd
set_option linter.unusedVariables false
set_option linter.unusedSimpArgs false
set_option maxRecDepth 100000
noncomputable section
namespace Go.Proofs.YtfdggebddcoeeaaGreatDoor
namespace Sx
open Go Go.RowKit

def lawArgsM : List SV := [.int .i64 (.var 0), .agg [.int .i64 (.var 1), .int .u64 (.md (.var 2) 64), .int .u64 (.md (.var 3) 64), .bool (.var 4)], .agg [.int .i64 (.var 5), .int .u64 (.md (.var 6) 64), .int .u64 (.md (.var 7) 64), .bool (.var 8)], .agg [.int .i64 (.var 9), .int .u64 (.md (.var 10) 64), .int .u64 (.md (.var 11) 64), .bool (.var 12)], .int .u64 (.md (.var 13) 64)]
def boolE (r : R) : Option SE := match r with
  | some (v, _, _) => match v with
    | .bool e => some e
    | _ => none
  | none => none
theorem boolE_ok {r : R} {e : SE} (h : boolE r = some e) : ∃ hp k, r = some (.bool e, hp, k) := by
  unfold boolE at h
  repeat' (split at h)
  all_goals first
    | (cases h; done)
    | (cases h; exact ⟨_, _, rfl⟩)
def isE (o : Option SE) (e : SE) : Bool := match o with
  | some x => SE.beq x e
  | none => false
theorem isE_ok {o : Option SE} {e : SE} (h : isE o e = true) : o = some e := by
  cases o with
  | none => cases h
  | some x => rw [SE.beq_eq h]
def isTwo (o : Option SE) : Bool := match o with
  | some x => two64 x
  | none => false
/-- a case whose rest is shown besides -/
def CaseM (sums : Tr Sm) (f len j : Nat) (va : Nat → Int) : Prop := ∃ (keys : List (SE × SE)) (e : SE), (∀ p ∈ keys, p.1.den (EE va) = p.2.den (EE va)) ∧ boolE (call Tryz.prog (Gu (keyL len j :: keys) []) sums 60 f lawArgsM .lf 0) = some e ∧ e.den (EE va) = 1
theorem law_casesM {f : FuncId} {fn : Func} (hf : Tryz.prog.funcs[f]? = some fn) (hb : fn.body.isSome = true) {sums : Tr Sm} (hS : ∀ va keys spl, SumsOk (EE va) Tryz.prog (Gu keys spl) sums) {len : Nat} (h0 : 0 < len)
    (hall : ∀ j, j < len → ∀ va, CaseM sums f len j va) {W : World} (hT : TabOk W) {x t1 l1 m1 t2 l2 m2 t3 l3 m3 y : Int} {n1 n2 n3 : Bool} (h : Rng x t1 l1 m1 t2 l2 m2 t3 l3 m3 y) :
    Calls Tryz.prog f (valA x t1 l1 m1 t2 l2 m2 t3 l3 m3 y n1 n2 n3) W (fun e W' => e = .returned (.bool true) ∧ Below W.heap.size W W') := by
  let va := lawVa x t1 l1 m1 t2 l2 m2 t3 l3 m3 y n1 n2 n3
  obtain ⟨j, hj, hk⟩ := keyL_holds (E := EE va) h0
  obtain ⟨keys, e, k1, k2, k3⟩ := hall j hj va
  obtain ⟨h1, kk, ec⟩ := boolE_ok k2
  obtain ⟨a0, a1, a2, a3, a4, a5, a6, a7, a8, a9, a10⟩ := h
  have hw : wfL (EE va) 0 lawArgsM := ⟨a0, ⟨a1, u64_md _, u64_md _, trivial, trivial⟩, ⟨a4, u64_md _, u64_md _, trivial, trivial⟩, ⟨a7, u64_md _, u64_md _, trivial, trivial⟩, u64_md _, trivial⟩
  have hkeys : ∀ p ∈ keyL len j :: keys, p.1.den (EE va) = p.2.den (EE va) := fun p hp => by
    rcases List.mem_cons.1 hp with rfl | hp
    · exact hk
    · exact k1 p hp
  have hc := eval_ok okP mixed (hS va _ []) 60 f lawArgsM .lf 0 _ h1 kk ec loc0 W (hrel_lf _ _ _) (gok hT hkeys (fun s hs => by cases hs)) hw
  have hd : (denL (EE va) loc0 lawArgsM).toArray = valA x t1 l1 m1 t2 l2 m2 t3 l3 m3 y n1 n2 n3 := by
    show #[Value.int .i64 x, .agg #[.int .i64 t1, .int .u64 (l1 % 2 ^ 64), .int .u64 (m1 % 2 ^ 64), .bool (decide ((cond n1 1 0 : Int) ≠ 0))], .agg #[.int .i64 t2, .int .u64 (l2 % 2 ^ 64), .int .u64 (m2 % 2 ^ 64), .bool (decide ((cond n2 1 0 : Int) ≠ 0))], .agg #[.int .i64 t3, .int .u64 (l3 % 2 ^ 64), .int .u64 (m3 % 2 ^ 64), .bool (decide ((cond n3 1 0 : Int) ≠ 0))], .int .u64 (y % 2 ^ 64)] = _
    rw [boolv, boolv, boolv, u64_id a2, u64_id a3, u64_id a5, u64_id a6, u64_id a8, u64_id a9, u64_id a10]
    rfl
  rw [hd] at hc
  refine (calls_of_cx okP hf hb hc).mono fun ex W' hx => ?_
  cases ex <;> try exact absurd hx id
  obtain ⟨loc', e1, e2⟩ := hx
  refine ⟨?_, e2.bel⟩
  rw [e1]
  simp only [SV.den, k3]
  rfl
/-- the lanes of the first vector -/
def lanesW (n w : Nat) : Nat → List SE
  | 0 => []
  | i + 1 => lanesW n w i ++ [mkMd (mkShr (.md (.var w) 64) (n * i)) n]
def lanesE (n : Nat) : List SE := lanesW n 2 (64 / n) ++ lanesW n 3 (64 / n)
theorem lanesW_range (E : Env) (n w : Nat) : ∀ i, ∀ x ∈ lanesW n w i, 0 ≤ x.den E ∧ x.den E < 2 ^ n := by
  intro i
  induction i with
  | zero => intro x hx; cases hx
  | succ i ih =>
    intro x hx
    rcases List.mem_append.1 hx with hx | hx
    · exact ih x hx
    · rw [List.mem_singleton.1 hx, mkMd_den]
      exact emod_range _ _
theorem lanesE_range (E : Env) (n : Nat) : ∀ x ∈ lanesE n, 0 ≤ x.den E ∧ x.den E < 2 ^ n := by
  intro x hx
  rcases List.mem_append.1 hx with hx | hx
  · exact lanesW_range E n 2 _ x hx
  · exact lanesW_range E n 3 _ x hx
/-! and, or, xor of bytes, as the reference makes them -/
def op8 (op : Nat) : BinOp := match op with
  | 8 => .and
  | 9 => .or
  | _ => .xor
def e8 (op : Nat) (a b : SE) : SE := .md (.bit (op8 op) .u64 (mkMd a 8) (mkMd b 8)) 8
theorem run8 : allN (fun i => cond (fineN 64 (run0 [] 107 (args2 8 (8 + i)))) (sameBits 8 (numE (run0 [] 107 (args2 8 (8 + i)))) (e8 (8 + i) (.md (.var 0) 64) (.md (.var 1) 64))) false) 3 = true := by kernel_rfl
theorem leaf8 {i : Nat} (hi : i < 3) : ∀ x y : Int, inR .u64 x → inR .u64 y → ∀ w, CX Tryz.prog 107 #[.int .i64 8, .int .i64 (8 + i : Nat), .int .u64 x, .int .u64 y] w (fun u w' => u = .tuple #[.int .u64 (bitsI (op8 (8 + i)) .u64 (x % 2 ^ 8) (y % 2 ^ 8) % 2 ^ 8), .int .i64 0] ∧ Below w.heap.size w w') := by
  intro x y hx hy w
  have h := allN_ok run8 i hi
  cases h1 : fineN 64 (run0 [] 107 (args2 8 (8 + i))) <;> rw [h1] at h <;> try (cases h; done)
  refine cx_mono (run_num (by decide) (by omega) rfl h1 hx hy (fun p hp => by cases hp) w) fun v w' ⟨q1, q2, _⟩ => ⟨?_, q2⟩
  rw [q1, sameBits_ok (vars2 x y) h]
  simp only [e8, SE.den, mkMd_den, va0, va1, u64_id hx, u64_id hy]
def smB8 : Sm := fun a hp nx => match a with
  | [.int .i64 (.lit (.ofNat n)), .int .i64 (.lit (.ofNat op)), .int .u64 a, .int .u64 b] => cond (and (Nat.beq n 8) (and (Nat.ble 8 op) (Nat.ble op 10))) (some (.tup [.int .u64 (e8 op a b), .int .i64 (.lit 0)], hp, nx)) none
  | _ => none
theorem smB8_ok {E : Env} {G : Gl} : SmOk E Tryz.prog G 107 smB8 := by
  intro args hp nx v hp' nx' hv loc w hr hg hw
  unfold smB8 at hv
  split at hv
  · rename_i n op a b
    cases h1 : and (Nat.beq n 8) (and (Nat.ble 8 op) (Nat.ble op 10)) <;> rw [h1] at hv <;> cases hv
    simp only [Bool.and_eq_true] at h1
    obtain ⟨c1, c2, c3⟩ := h1
    have e1 := Nat.eq_of_beq_eq_true c1
    have e2 := Nat.le_of_ble_eq_true c2
    have e3 := Nat.le_of_ble_eq_true c3
    obtain ⟨i, rfl⟩ : ∃ i, op = 8 + i := ⟨op - 8, by omega⟩
    subst e1
    obtain ⟨_, _, wa, wb, _⟩ := hw
    refine cx_mono (leaf8 (i := i) (by omega) _ _ wa wb w) fun u w' ⟨q1, q2⟩ => ⟨loc, ?_, step_of_below hr q2 ⟨?_, in_bits (n := 0) (by decide), trivial⟩⟩
    · rw [q1]
      simp only [SV.den, denL, e8, SE.den, mkMd_den]
    · simp only [SV.wf, e8, SE.den]
      exact u64_of_mod (by decide)
  · cases hv
def sumsBits : Tr Sm := sumsA.set 107 smB8
theorem sumsBits_ok (va : Nat → Int) (keys : List (SE × SE)) (spl : List (SE × SE × Nat)) : SumsOk (EE va) Tryz.prog (Gu keys spl) sumsBits := sums_add sumsA_ok smB8_ok
theorem case_two {j : Nat} (h : isTwo (boolE (call Tryz.prog (Gu [keyL 15 j] []) sumsBits 60 19 lawArgsM .lf 0)) = true) (va : Nat → Int) : CaseM sumsBits 19 15 j va := by
  cases hb : boolE (call Tryz.prog (Gu [keyL 15 j] []) sumsBits 60 19 lawArgsM .lf 0) with
  | none => rw [hb] at h; cases h
  | some e =>
    rw [hb] at h
    exact ⟨[], e, fun p hp => (by cases hp), hb, two64_ok _ h⟩
theorem case_all {j n : Nat} (h : isE (boolE (call Tryz.prog (Gu [keyL 15 j] []) sumsBits 60 19 lawArgsM .lf 0)) (allE (lanesE n)) = true) (va : Nat → Int) : CaseM sumsBits 19 15 j va := ⟨[], _, fun p hp => (by cases hp), isE_ok h, allE_den _ _⟩
theorem case_mask {j n : Nat} (hn : n = 8 ∨ n = 16 ∨ n = 32 ∨ n = 64) (hl : (lanesE n).length ≤ 16) (h : isE (boolE (call Tryz.prog (Gu (keyL 15 j :: signsK n (lanesE n)) []) sumsBits 60 19 lawArgsM .lf 0)) (maskE n (lanesE n)) = true) (va : Nat → Int) : CaseM sumsBits 19 15 j va :=
  ⟨signsK n (lanesE n), _, signsK_holds _ hn hl (lanesE_range _ n), isE_ok h, maskE_den _ hn hl (lanesE_range _ n)⟩
/-- all bytes are 0 just where the words are -/
theorem bytes_zero (E : Env) (w : Nat) : (∀ x ∈ lanesW 8 w 8, x.den E = 0) ↔ E.va w % 2 ^ 64 = 0 := by
  constructor
  · intro h
    have g : ∀ i, i < 8 → (E.va w % 2 ^ 64) / 2 ^ (8 * i) % 2 ^ 8 = 0 := fun i hi => by
      have hm : mkMd (mkShr (.md (.var w) 64) (8 * i)) 8 ∈ lanesW 8 w 8 := by
        have : i = 0 ∨ i = 1 ∨ i = 2 ∨ i = 3 ∨ i = 4 ∨ i = 5 ∨ i = 6 ∨ i = 7 := by omega
        simp only [lanesW, List.mem_append, List.mem_singleton]
        rcases this with rfl | rfl | rfl | rfl | rfl | rfl | rfl | rfl <;> simp
      have := h _ hm
      rw [mkMd_den, mkShr_den] at this
      exact this
    have h0 := g 0 (by omega)
    have h1 := g 1 (by omega)
    have h2 := g 2 (by omega)
    have h3 := g 3 (by omega)
    have h4 := g 4 (by omega)
    have h5 := g 5 (by omega)
    have h6 := g 6 (by omega)
    have h7 := g 7 (by omega)
    have hr := emod_range (E.va w) 64
    generalize E.va w % 2 ^ 64 = x at *
    simp at h0 h1 h2 h3 h4 h5 h6 h7 hr ⊢
    omega
  · intro h x hx
    have key : ∀ i, ∀ x ∈ lanesW 8 w i, x.den E = 0 := by
      intro i
      induction i with
      | zero => intro x hx; cases hx
      | succ i ih =>
        intro x hx
        rcases List.mem_append.1 hx with hx | hx
        · exact ih x hx
        · rw [List.mem_singleton.1 hx, mkMd_den, mkShr_den]
          simp only [SE.den, h]
          simp
    exact key 8 x hx
theorem eqnn (E : Env) {X Y : SE} (h : (X.den E = 0 ∧ Y.den E = 0) ∨ (X.den E ≠ 0 ∧ Y.den E = 1)) : (SE.eq (.eq (.eq X (.lit 0)) (.lit 0)) Y).den E = 1 := by
  rcases h with ⟨a, b⟩ | ⟨a, b⟩ <;> simp [SE.den, a, b]
theorem case_any {j : Nat} (h : isE (boolE (call Tryz.prog (Gu [keyL 15 j] []) sumsBits 60 19 lawArgsM .lf 0)) (anyE (.md (.var 2) 64) (.md (.var 3) 64) (lanesE 8).reverse) = true) (va : Nat → Int) : CaseM sumsBits 19 15 j va := by
  refine ⟨[], _, fun p hp => (by cases hp), isE_ok h, ?_⟩
  have hr : ∀ x ∈ (lanesE 8).reverse, 0 ≤ x.den (EE va) := fun x hx => (lanesE_range (EE va) 8 x (List.mem_reverse.1 hx)).1
  have hall : (∀ x ∈ (lanesE 8).reverse, x.den (EE va) = 0) ↔ bitsI .or .u64 (va 2 % 2 ^ 64) (va 3 % 2 ^ 64) = 0 := by
    rw [or_zero_iff (emod_range _ _) (emod_range _ _)]
    have b2 := bytes_zero (EE va) 2
    have b3 := bytes_zero (EE va) 3
    constructor
    · intro h
      exact ⟨b2.1 fun x hx => h x (List.mem_reverse.2 (List.mem_append_left _ hx)), b3.1 fun x hx => h x (List.mem_reverse.2 (List.mem_append_right _ hx))⟩
    · rintro ⟨h2, h3⟩ x hx
      rcases List.mem_append.1 (List.mem_reverse.1 hx) with hx | hx
      · exact b2.2 h2 x hx
      · exact b3.2 h3 x hx
  unfold anyE
  have e1 : (SE.bit .or .u64 (.md (.var 2) 64) (.md (.var 3) 64)).den (EE va) = bitsI .or .u64 (va 2 % 2 ^ 64) (va 3 % 2 ^ 64) := rfl
  have e2 := anyY_den (EE va) _ hr
  refine eqnn _ ?_
  rw [e1, e2]
  by_cases h : bitsI .or .u64 (va 2 % 2 ^ 64) (va 3 % 2 ^ 64) = 0
  · exact .inl ⟨h, if_pos (hall.2 h)⟩
  · exact .inr ⟨h, if_neg fun h' => h (hall.1 h')⟩

end Sx
end Go.Proofs.YtfdggebddcoeeaaGreatDoor
end
