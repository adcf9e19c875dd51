/-
  A law of the lanes: its run by the evaluator at any arguments; the statement's own examples.
-/
import Derived.Test.YtfdggebddcoeeaaGreatDoorTyLf
import Derived.Test.YtfdggebddcoeeaaGreatDoorTyZA
set_option linter.unusedVariables false
set_option linter.unusedSimpArgs false
set_option maxRecDepth 100000
noncomputable section
namespace Go.Proofs.YtfdggebddcoeeaaGreatDoor
namespace Sx
open Go Go.RowKit

/-- the table of spaces -/
def T0 : Nat → Tr SV := fun g => match g with
  | 0 => tabD Rows.laid_strings_asciiSpace
  | _ => .lf
def Gu (keys : List (SE × SE)) (spl : List (SE × SE × Nat)) : Gl := ⟨T0, keys, spl⟩
abbrev Gt (keys : List (SE × SE)) : Gl := Gu keys []
def TabOk (w : World) : Prop := ∀ (E : Env) (i : Nat) (v : SV), (T0 0).get i = some v → (∀ loc, w.cell? ⟨0, i, none⟩ = some (v.den E loc)) ∧ v.wf E 0 ∧ oneC v = true
theorem spaceName : Tryz.prog.globalNamed "strings.asciiSpace" = some 0 := by kernel_rfl
theorem spaceG : (Tryz.prog.globals[0]?).map (·.type) = some 114 := by kernel_rfl
theorem spaceC : Tryz.prog.cellsOf 5 = 1 := by kernel_rfl
theorem tab_of {W : World} {laid : List (String × DataW Unit)} (hL : laidMetH Tryz.prog laid W) (hp : (laid.all fun x => x.2.handleName?.isNone) = true) (hm : ("strings.asciiSpace", Rows.laid_strings_asciiSpace) ∈ laid) : TabOk W := by
  rw [MakeChecks.laidMetH_plain _ _ _ hp] at hL
  obtain ⟨ps, h1, _⟩ := hL
  exact fun E i v hv => laid_cells h1 hm spaceName spaceG Tryz.underlying114 spaceC (.inr ⟨_, Tryz.underlying5⟩) i v hv
theorem gok {E : Env} {keys : List (SE × SE)} {spl : List (SE × SE × Nat)} {W : World} (hT : TabOk W) (hk : ∀ p ∈ keys, p.1.den E = p.2.den E) (hs : ∀ s ∈ spl, s.1.den E ≠ 0 → ∃ c : Nat, c < s.2.2 ∧ s.2.1.den E = c) : GOk E (Gu keys spl) W := by
  refine ⟨⟨hk, hs⟩, fun g i v hv => ?_⟩
  cases g with
  | zero => exact hT E i v hv
  | succ g => cases hv
theorem gok_less {E : Env} {keys : List (SE × SE)} {spl : List (SE × SE × Nat)} {W : World} (h : GOk E (Gu keys spl) W) : GOk E (Gt []) W := ⟨⟨fun _ hp => (by cases hp), fun _ hp => (by cases hp)⟩, h.2⟩
def yes (r : R) : Bool := match r with
  | some (v, _, _) => match v with
    | .bool e => match e with
      | .lit n => intEq n 1
      | _ => false
    | _ => false
  | none => false
theorem yes_ok {r : R} (h : yes r = true) : ∃ hp k, r = some (.bool (.lit 1), hp, k) := by
  unfold yes at h
  repeat' (split at h)
  all_goals first
    | (cases h; done)
    | (rw [(intEq_iff _ _).1 h]; exact ⟨_, _, rfl⟩)
theorem awake_run : yes (call Tryz.prog (Gt []) sums0 60 20 [] .lf 0) = true := by kernel_rfl
def smAwake : Sm := fun a hp nx => match a with
  | [] => some (.bool (.lit 1), hp, nx)
  | _ => none
theorem smAwake_ok {E : Env} {keys : List (SE × SE)} {spl : List (SE × SE × Nat)} : SmOk E Tryz.prog (Gu keys spl) 20 smAwake := by
  intro args hp nx v hp' nx' hv loc w hr hg hw
  unfold smAwake at hv
  split at hv
  · cases hv
    obtain ⟨h1, k1, e⟩ := yes_ok awake_run
    refine cx_mono (eval_ok (E := E) okP mixed sums0_ok 60 20 [] .lf 0 _ h1 k1 e loc w (hrel_lf _ _ _) (gok_less hg) trivial) fun u w' hu => ?_
    obtain ⟨loc', e1, e2⟩ := hu
    exact ⟨loc, e1, step_of_below hr e2.bel trivial⟩
  · cases hv
def sumsA : Tr Sm := sums1.set 20 smAwake
theorem sumsA_ok {E : Env} {keys : List (SE × SE)} {spl : List (SE × SE × Nat)} : SumsOk E Tryz.prog (Gu keys spl) sumsA := by
  intro f s h
  unfold sumsA at h
  rcases Tr.get_set h with ⟨rfl, rfl⟩ | ⟨_, h⟩
  · exact smAwake_ok
  · exact sums1_ok f s h
/-- sums to which a summary is added -/
theorem sums_add {E : Env} {G : Gl} {sums : Tr Sm} (h : SumsOk E Tryz.prog G sums) {f : FuncId} {s : Sm} (hs : SmOk E Tryz.prog G f s) : SumsOk E Tryz.prog G (sums.set f s) := by
  intro g t hg
  rcases Tr.get_set hg with ⟨rfl, rfl⟩ | ⟨_, hg⟩
  · exact hs
  · exact h g t hg

/-! a law of which vectors are asked -/
/-- what a law's inputs are within -/
def Rng (x t1 l1 m1 t2 l2 m2 t3 l3 m3 y : Int) : Prop := inR .i64 x ∧ inR .i64 t1 ∧ inR .u64 l1 ∧ inR .u64 m1 ∧ inR .i64 t2 ∧ inR .u64 l2 ∧ inR .u64 m2 ∧ inR .i64 t3 ∧ inR .u64 l3 ∧ inR .u64 m3 ∧ inR .u64 y
def lawArgs : List SV := [.int .i64 (.var 0), .agg [.int .i64 (.var 1), .int .u64 (.var 2), .int .u64 (.var 3), .bool (.var 4)], .agg [.int .i64 (.var 5), .int .u64 (.var 6), .int .u64 (.var 7), .bool (.var 8)], .agg [.int .i64 (.var 9), .int .u64 (.var 10), .int .u64 (.var 11), .bool (.var 12)], .int .u64 (.var 13)]
def lawVa (x t1 l1 m1 t2 l2 m2 t3 l3 m3 y : Int) (n1 n2 n3 : Bool) : Nat → Int := fun i => match i with
  | 0 => x
  | 1 => t1
  | 2 => l1
  | 3 => m1
  | 4 => cond n1 1 0
  | 5 => t2
  | 6 => l2
  | 7 => m2
  | 8 => cond n2 1 0
  | 9 => t3
  | 10 => l3
  | 11 => m3
  | 12 => cond n3 1 0
  | _ => y
def valA (x t1 l1 m1 t2 l2 m2 t3 l3 m3 y : Int) (n1 n2 n3 : Bool) : Array Value := #[.int .i64 x, .agg #[.int .i64 t1, .int .u64 l1, .int .u64 m1, .bool n1], .agg #[.int .i64 t2, .int .u64 l2, .int .u64 m2, .bool n2], .agg #[.int .i64 t3, .int .u64 l3, .int .u64 m3, .bool n3], .int .u64 y]
theorem boolv (b : Bool) : decide ((cond b 1 0 : Int) ≠ 0) = b := by cases b <;> rfl
theorem law_den {x t1 l1 m1 t2 l2 m2 t3 l3 m3 y : Int} {n1 n2 n3 : Bool} {F1 : Nat → Int → Int} {F2 : Nat → Int → Int → Int} :
    (denL ⟨F1, F2, lawVa x t1 l1 m1 t2 l2 m2 t3 l3 m3 y n1 n2 n3⟩ loc0 lawArgs).toArray = valA x t1 l1 m1 t2 l2 m2 t3 l3 m3 y n1 n2 n3 := by
  show #[Value.int .i64 x, .agg #[.int .i64 t1, .int .u64 l1, .int .u64 m1, .bool (decide ((cond n1 1 0 : Int) ≠ 0))], .agg #[.int .i64 t2, .int .u64 l2, .int .u64 m2, .bool (decide ((cond n2 1 0 : Int) ≠ 0))], .agg #[.int .i64 t3, .int .u64 l3, .int .u64 m3, .bool (decide ((cond n3 1 0 : Int) ≠ 0))], .int .u64 y] = _
  rw [boolv, boolv, boolv]
  rfl
theorem law_core {f : FuncId} {fn : Func} (hf : Tryz.prog.funcs[f]? = some fn) (hb : fn.body.isSome = true) {keys : List (SE × SE)} {spl : List (SE × SE × Nat)} {sums : Tr Sm} {x t1 l1 m1 t2 l2 m2 t3 l3 m3 y : Int} {n1 n2 n3 : Bool} {E : Env} (hE : E.va = lawVa x t1 l1 m1 t2 l2 m2 t3 l3 m3 y n1 n2 n3)
    (hS : SumsOk E Tryz.prog (Gu keys spl) sums) (hy : yes (call Tryz.prog (Gu keys spl) sums 60 f lawArgs .lf 0) = true) {W : World} (hT : TabOk W) (hk : ∀ p ∈ keys, p.1.den E = p.2.den E) (hs : ∀ s ∈ spl, s.1.den E ≠ 0 → ∃ c : Nat, c < s.2.2 ∧ s.2.1.den E = c) (h : Rng x t1 l1 m1 t2 l2 m2 t3 l3 m3 y) :
    Calls Tryz.prog f (valA x t1 l1 m1 t2 l2 m2 t3 l3 m3 y n1 n2 n3) W (fun e W' => e = .returned (.bool true) ∧ Below W.heap.size W W') := by
  obtain ⟨F1, F2, va⟩ := E
  simp only at hE
  subst hE
  obtain ⟨h1, k1, e⟩ := yes_ok hy
  obtain ⟨a0, a1, a2, a3, a4, a5, a6, a7, a8, a9, a10⟩ := h
  have hw : wfL ⟨F1, F2, lawVa x t1 l1 m1 t2 l2 m2 t3 l3 m3 y n1 n2 n3⟩ 0 lawArgs := ⟨a0, ⟨a1, a2, a3, trivial, trivial⟩, ⟨a4, a5, a6, trivial, trivial⟩, ⟨a7, a8, a9, trivial, trivial⟩, a10, trivial⟩
  have hc := eval_ok okP mixed hS 60 f lawArgs .lf 0 _ h1 k1 e loc0 W (hrel_lf _ _ _) (gok hT hk hs) hw
  rw [law_den] at hc
  refine (calls_of_cx okP hf hb hc).mono fun ex W' hx => ?_
  cases ex <;> try exact absurd hx id
  obtain ⟨loc', e1, e2⟩ := hx
  exact ⟨by rw [e1]; rfl, e2.bel⟩
/-- the instruction's number in a list -/
def keyL (len j : Nat) : SE × SE := (.tmod (.md (.var 0) 10) (.lit (.ofNat len)), .lit (.ofNat j))
theorem keyL_holds {E : Env} {len : Nat} (h0 : 0 < len) : ∃ j, j < len ∧ (keyL len j).1.den E = (keyL len j).2.den E := by
  have h1 := emod_range (E.va 0) 10
  refine ⟨((E.va 0 % 2 ^ 10) % len).toNat, ?_, ?_⟩
  · have h2 := Int.emod_nonneg (E.va 0 % 2 ^ 10) (show (len : Int) ≠ 0 by omega)
    have h3 := Int.emod_lt_of_pos (E.va 0 % 2 ^ 10) (show (0 : Int) < len by omega)
    omega
  · have h2 := Int.emod_nonneg (E.va 0 % 2 ^ 10) (show (len : Int) ≠ 0 by omega)
    simp only [keyL, SE.den, Int.ofNat_eq_natCast]
    rw [Int.tmod_eq_emod_of_nonneg h1.1, Int.toNat_of_nonneg h2]
theorem law_runs {f : FuncId} {fn : Func} (hf : Tryz.prog.funcs[f]? = some fn) (hb : fn.body.isSome = true) {sums : Tr Sm} (hS : ∀ va keys spl, SumsOk (EE va) Tryz.prog (Gu keys spl) sums) {len : Nat} (h0 : 0 < len)
    (hall : ∀ j, j < len → yes (call Tryz.prog (Gt [keyL len j]) sums 60 f lawArgs .lf 0) = true) {W : World} (hT : TabOk W) {x t1 l1 m1 t2 l2 m2 t3 l3 m3 y : Int} {n1 n2 n3 : Bool} (h : Rng x t1 l1 m1 t2 l2 m2 t3 l3 m3 y) :
    Calls Tryz.prog f (valA x t1 l1 m1 t2 l2 m2 t3 l3 m3 y n1 n2 n3) W (fun e W' => e = .returned (.bool true) ∧ Below W.heap.size W W') := by
  obtain ⟨j, hj, hk⟩ := keyL_holds (E := EE (lawVa x t1 l1 m1 t2 l2 m2 t3 l3 m3 y n1 n2 n3)) h0
  exact law_core hf hb rfl (hS _ _ _) (hall j hj) hT (fun p hp => by rw [List.mem_singleton.1 hp]; exact hk) (fun s hs => by cases hs) h

/-- by further cases -/
def Case (sums : Tr Sm) (f len j : Nat) (va : Nat → Int) : Prop := ∃ (keys : List (SE × SE)) (spl : List (SE × SE × Nat)), (∀ p ∈ keys, p.1.den (EE va) = p.2.den (EE va)) ∧ (∀ s ∈ spl, s.1.den (EE va) ≠ 0 → ∃ c : Nat, c < s.2.2 ∧ s.2.1.den (EE va) = c) ∧
  yes (call Tryz.prog (Gu (keyL len j :: keys) spl) sums 60 f lawArgs .lf 0) = true
theorem law_cases {f : FuncId} {fn : Func} (hf : Tryz.prog.funcs[f]? = some fn) (hb : fn.body.isSome = true) {sums : Tr Sm} (hS : ∀ va keys spl, SumsOk (EE va) Tryz.prog (Gu keys spl) sums) {len : Nat} (h0 : 0 < len)
    (hall : ∀ j, j < len → ∀ va, Case sums f len j va) {W : World} (hT : TabOk W) {x t1 l1 m1 t2 l2 m2 t3 l3 m3 y : Int} {n1 n2 n3 : Bool} (h : Rng x t1 l1 m1 t2 l2 m2 t3 l3 m3 y) :
    Calls Tryz.prog f (valA x t1 l1 m1 t2 l2 m2 t3 l3 m3 y n1 n2 n3) W (fun e W' => e = .returned (.bool true) ∧ Below W.heap.size W W') := by
  obtain ⟨j, hj, hk⟩ := keyL_holds (E := EE (lawVa x t1 l1 m1 t2 l2 m2 t3 l3 m3 y n1 n2 n3)) h0
  obtain ⟨keys, spl, k1, k2, k3⟩ := hall j hj (lawVa x t1 l1 m1 t2 l2 m2 t3 l3 m3 y n1 n2 n3)
  exact law_core hf hb rfl (hS _ _ _) k3 hT (fun p hp => by
    rcases List.mem_cons.1 hp with rfl | hp
    · exact hk
    · exact k1 p hp) k2 h
theorem case_plain {sums : Tr Sm} {f len j : Nat} (h : yes (call Tryz.prog (Gu [keyL len j] []) sums 60 f lawArgs .lf 0) = true) (va : Nat → Int) : Case sums f len j va := ⟨[], [], fun p hp => (by cases hp), fun s hs => (by cases hs), h⟩
/-- which lane -/
def laneK (L s : Nat) : List (SE × SE) := [(.tmod (.md (.var 0) 6) (.lit (.ofNat L)), .lit (.ofNat s))]
theorem case_lane {sums : Tr Sm} {f len j L : Nat} (h0 : 0 < L) (h : ∀ s, s < L → yes (call Tryz.prog (Gu (keyL len j :: laneK L s) []) sums 60 f lawArgs .lf 0) = true) (va : Nat → Int) : Case sums f len j va := by
  have h1 := emod_range (va 0) 6
  have h2 := Int.emod_nonneg (va 0 % 2 ^ 6) (show (L : Int) ≠ 0 by omega)
  have h3 := Int.emod_lt_of_pos (va 0 % 2 ^ 6) (show (0 : Int) < L by omega)
  refine ⟨laneK L ((va 0 % 2 ^ 6) % L).toNat, [], fun p hp => ?_, fun s hs => (by cases hs), h _ (by omega)⟩
  rw [List.mem_singleton.1 hp]
  simp only [SE.den, Int.ofNat_eq_natCast, EE]
  rw [Int.tmod_eq_emod_of_nonneg h1.1, Int.toNat_of_nonneg h2]
/-- which lanes are chosen -/
def shufK (s : Nat) : Nat → List (SE × SE)
  | 0 => []
  | j + 1 => (.tmod (mkWrap .i64 (mkAdd (.md (.var 0) 5) (.lit (.ofNat (j * j))))) (.lit 32), .lit (.ofNat ((s + j * j) % 32))) :: shufK s j
theorem shufK_holds {E : Env} {s : Nat} (h : E.va 0 % 2 ^ 5 = s) (hs : s < 32) : ∀ n, n ≤ 16 → ∀ p ∈ shufK s n, p.1.den E = p.2.den E := by
  intro n
  induction n with
  | zero => intro _ p hp; cases hp
  | succ j ih =>
    intro hn p hp
    rcases List.mem_cons.1 hp with rfl | hp
    · have hj : j * j ≤ 225 := Nat.mul_le_mul (show j ≤ 15 by omega) (show j ≤ 15 by omega)
      simp only [SE.den, mkWrap_den, mkAdd_den, Int.ofNat_eq_natCast, h]
      generalize j * j = q at *
      have e : IntKind.i64.wrap ((s : Int) + (q : Int)) = ((s + q : Nat) : Int) := by
        simp [IntKind.wrap, IntKind.bits, IntKind.signed]
        omega
      rw [e, Int.tmod_eq_emod_of_nonneg (by omega)]
      push_cast
      rfl
    · exact ih (by omega) p hp
theorem case_shuffle {sums : Tr Sm} {f len j : Nat} (h : ∀ s, s < 32 → yes (call Tryz.prog (Gu (keyL len j :: shufK s 16) []) sums 60 f lawArgs .lf 0) = true) (va : Nat → Int) : Case sums f len j va := by
  have h1 := emod_range (va 0) 5
  obtain ⟨s, hs⟩ := Int.eq_ofNat_of_zero_le h1.1
  have hlt : s < 32 := by rw [hs] at h1; have := h1.2; omega
  exact ⟨shufK s 16, [], shufK_holds (E := EE va) hs hlt 16 (Nat.le_refl _), fun s hs => (by cases hs), h s hlt⟩
/-- a byte of the second vector -/
def byteE (i : Nat) : SE := mkMd (mkShr (.var (cond (Nat.blt i 8) 6 7)) (8 * (i % 8))) 8
def swSpl : Nat → List (SE × SE × Nat)
  | 0 => []
  | i + 1 => (mkLt (byteE i) (.lit 16), byteE i, 16) :: swSpl i
theorem swSpl_holds {E : Env} : ∀ n, ∀ s ∈ swSpl n, s.1.den E ≠ 0 → ∃ c : Nat, c < s.2.2 ∧ s.2.1.den E = c := by
  intro n
  induction n with
  | zero => intro s hs; cases hs
  | succ i ih =>
    intro s hs
    rcases List.mem_cons.1 hs with rfl | hs
    · intro hd
      simp only [mkLt_den, byteE, mkMd_den, SE.den] at hd ⊢
      have h1 := emod_range ((mkShr (.var (cond (Nat.blt i 8) 6 7)) (8 * (i % 8))).den E) 8
      obtain ⟨c, hc⟩ := Int.eq_ofNat_of_zero_le h1.1
      rw [hc] at hd ⊢
      refine ⟨c, ?_, rfl⟩
      by_cases hlt : (c : Int) < 16
      · omega
      · simp [hlt] at hd
    · exact ih s hs
theorem case_swizzle {sums : Tr Sm} {f len j : Nat} (h : yes (call Tryz.prog (Gu [keyL len j] (swSpl 16)) sums 60 f lawArgs .lf 0) = true) (va : Nat → Int) : Case sums f len j va := ⟨[], swSpl 16, fun p hp => (by cases hp), swSpl_holds 16, h⟩

end Sx
end Go.Proofs.YtfdggebddcoeeaaGreatDoor
end
