/-
  Leaf functions of whole numbers: run by the evaluator at variables; a name for what each comes to.
-/
import Derived.Test.YtfdggebddcoeeaaGreatDoorTySg
set_option linter.unusedVariables false
set_option linter.unusedSimpArgs false
set_option maxRecDepth 100000
noncomputable section
namespace Go.Proofs.YtfdggebddcoeeaaGreatDoor
namespace Sx
open Go Go.RowKit

def run0 (keys : List (SE × SE)) (f : FuncId) (args : List SV) : R := runV sums1 keys f args
theorem leaf_cx {f : FuncId} {args : List SV} {keys : List (SE × SE)} {sv : SV} {h : Tr SBlk} {k : Nat} (he : run0 keys f args = some (sv, h, k)) (E : Env) (hk : ∀ p ∈ keys, p.1.den E = p.2.den E) (hw : wfL E 0 args) (w : World) :
    CX Tryz.prog f (denL E loc0 args).toArray w (fun u w' => (∃ loc', u = sv.den E loc') ∧ Below w.heap.size w w' ∧ sv.wf E k) := leafS_cx (E := E) sums1_ok he hk hw w

/-! names -/
def numE (r : R) : SE := match r with
  | some (v, _, _) => match v with
    | .tup l => match l with
      | x :: _ => match x with
        | .int _ e => e
        | .bool e => e
        | _ => .lit 0
      | [] => .lit 0
    | _ => .lit 0
  | none => .lit 0
/-- a number of so many bits, and no error -/
def fineN (n : Nat) (r : R) : Bool := match r with
  | some (v, _, _) => match v with
    | .tup l => match l with
      | [x, y] => match x with
        | .int k e => match y with
          | .int j z => match z with
            | .lit z => cond (int0 z) (cond (decide (k = .u64)) (cond (decide (j = .i64)) (leO (ub e) n) false) false) false
            | _ => false
          | _ => false
        | _ => false
      | _ => false
    | _ => false
  | none => false
/-- yes or no, and no error -/
def fineB (r : R) : Bool := match r with
  | some (v, _, _) => match v with
    | .tup l => match l with
      | [x, y] => match x with
        | .bool e => match y with
          | .int j z => match z with
            | .lit z => cond (int0 z) (cond (decide (j = .i64)) (isB e) false) false
            | _ => false
          | _ => false
        | _ => false
      | _ => false
    | _ => false
  | none => false
theorem fineN_ok {n : Nat} {r : R} (h : fineN n r = true) : ∃ hp k, r = some (.tup [.int .u64 (numE r), .int .i64 (.lit 0)], hp, k) ∧ leO (ub (numE r)) n = true := by
  unfold fineN at h
  repeat' (split at h)
  all_goals first
    | (cases h; done)
    | (rename_i z
       cases h1 : int0 z <;> rw [h1] at h <;> try (cases h; done)
       rename_i k _ _ j _
       simp only [Bool.cond_true] at h
       cases h2 : decide (k = IntKind.u64) <;> rw [h2] at h <;> try (cases h; done)
       cases h3 : decide (j = IntKind.i64) <;> rw [h3] at h <;> try (cases h; done)
       rw [of_decide_eq_true h2, of_decide_eq_true h3, (int0_iff z).1 h1]
       exact ⟨_, _, rfl, h⟩)
theorem fineN_mono {n m : Nat} (hm : n ≤ m) {r : R} (h : fineN n r = true) : fineN m r = true := by
  obtain ⟨hp, k, e, hb⟩ := fineN_ok h
  have hle : leO (ub (numE r)) m = true := by
    unfold leO at hb ⊢
    split at hb
    · exact Nat.ble_eq_true_of_le (Nat.le_trans (Nat.le_of_ble_eq_true hb) hm)
    · cases hb
  generalize numE r = x at *
  subst e
  simp only [fineN, int0, Nat.beq_refl, decide_true, Bool.cond_true]
  exact hle
theorem fineB_ok {r : R} (h : fineB r = true) : ∃ hp k, r = some (.tup [.bool (numE r), .int .i64 (.lit 0)], hp, k) ∧ isB (numE r) = true := by
  unfold fineB at h
  repeat' (split at h)
  all_goals first
    | (cases h; done)
    | (rename_i z
       cases h1 : int0 z <;> rw [h1] at h <;> try (cases h; done)
       rename_i j _
       simp only [Bool.cond_true] at h
       cases h3 : decide (j = IntKind.i64) <;> rw [h3] at h <;> try (cases h; done)
       rw [of_decide_eq_true h3, (int0_iff z).1 h1]
       exact ⟨_, _, rfl, h⟩)
/-- a number of 64 bits -/
def numU (i : Nat) : SV := .int .u64 (.md (.var i) 64)
def args2 (n op : Nat) : List SV := [numL n, numL op, numU 0, numU 1]
def args1 (n op : Nat) : List SV := [numL n, numL op, numU 0]
/-- the second number's rest by n, one by one -/
def keyK (n k : Nat) : List (SE × SE) := [(.md (.var 1) (Nat.log2 n), .lit (.ofNat k))]
def isSh (op : Nat) : Bool := and (Nat.ble 11 op) (Nat.ble op 13)
def keyB (n op : Nat) (y : Int) : List (SE × SE) := cond (isSh op) (keyK n (y % 2 ^ Nat.log2 n).toNat) []
/-- what a function of two numbers comes to: ints.Bin, ints.Rel -/
def F2 (c : Nat) (x y : Int) : Int :=
  if c / 10000 = 1 then (numE (run0 (keyB (c % 100) (c / 100 % 100) y) 63 (args2 (c % 100) (c / 100 % 100)))).den (vars2 x y)
  else if c / 10000 = 2 then (numE (run0 [] 106 (args2 (c % 100) (c / 100 % 100)))).den (vars2 x y)
  else 0
/-- a byte, one by one -/
def keyC (k : Nat) : List (SE × SE) := [(.md (.var 0) 8, .lit (.ofNat k))]
def isPc (op : Nat) : Bool := Nat.beq op 3
def keyU (op : Nat) (x : Int) : List (SE × SE) := cond (isPc op) (keyC (x % 2 ^ 8).toNat) []
/-- of one: ints.Un -/
def F1 (c : Nat) (x : Int) : Int := if c / 10000 = 3 then (numE (run0 (keyU (c / 100 % 100) x) 97 (args1 (c % 100) (c / 100 % 100)))).den (vars2 x 0) else 0
def EE (va : Nat → Int) : Env := ⟨F1, F2, va⟩
def codeB (n op : Nat) : Nat := (100 + op) * 100 + n
def codeR (n op : Nat) : Nat := (200 + op) * 100 + n
def codeU (n op : Nat) : Nat := (300 + op) * 100 + n
theorem F2_bin {n op : Nat} (hn : n < 100) (ho : op < 100) (x y : Int) : F2 (codeB n op) x y = (numE (run0 (keyB n op y) 63 (args2 n op))).den (vars2 x y) := by
  have e1 : codeB n op / 10000 = 1 := by unfold codeB; omega
  have e2 : codeB n op % 100 = n := by unfold codeB; omega
  have e3 : codeB n op / 100 % 100 = op := by unfold codeB; omega
  unfold F2
  rw [if_pos e1, e2, e3]
theorem F2_rel {n op : Nat} (hn : n < 100) (ho : op < 100) (x y : Int) : F2 (codeR n op) x y = (numE (run0 [] 106 (args2 n op))).den (vars2 x y) := by
  have e1 : codeR n op / 10000 = 2 := by unfold codeR; omega
  have e2 : codeR n op % 100 = n := by unfold codeR; omega
  have e3 : codeR n op / 100 % 100 = op := by unfold codeR; omega
  unfold F2
  rw [if_neg (by omega), if_pos e1, e2, e3]
theorem F1_un {n op : Nat} (hn : n < 100) (ho : op < 100) (x : Int) : F1 (codeU n op) x = (numE (run0 (keyU op x) 97 (args1 n op))).den (vars2 x 0) := by
  have e1 : codeU n op / 10000 = 3 := by unfold codeU; omega
  have e2 : codeU n op % 100 = n := by unfold codeU; omega
  have e3 : codeU n op / 100 % 100 = op := by unfold codeU; omega
  unfold F1
  rw [if_pos e1, e2, e3]

/-! what a leaf does -/
def LeafB (f : FuncId) (n op : Nat) : Prop := ∀ x y : Int, inR .u64 x → inR .u64 y → ∀ w, CX Tryz.prog f #[.int .i64 n, .int .i64 op, .int .u64 x, .int .u64 y] w (fun u w' => u = .tuple #[.int .u64 (F2 (codeB n op) x y % 2 ^ n), .int .i64 0] ∧ Below w.heap.size w w')
def LeafR (f : FuncId) (n op : Nat) : Prop := ∀ x y : Int, inR .u64 x → inR .u64 y → ∀ w, CX Tryz.prog f #[.int .i64 n, .int .i64 op, .int .u64 x, .int .u64 y] w (fun u w' => u = .tuple #[.bool (decide (F2 (codeR n op) x y % 2 ^ n ≠ 0)), .int .i64 0] ∧ Below w.heap.size w w')
def LeafU (f : FuncId) (n op : Nat) : Prop := ∀ x : Int, inR .u64 x → ∀ w, CX Tryz.prog f #[.int .i64 n, .int .i64 op, .int .u64 x] w (fun u w' => u = .tuple #[.int .u64 (F1 (codeU n op) x % 2 ^ n), .int .i64 0] ∧ Below w.heap.size w w')
theorem u64_id {x : Int} (h : inR .u64 x) : x % 2 ^ 64 = x := emod_small (inR_unsigned (k := .u64) rfl h)
theorem u64_md (x : Int) : inR .u64 (x % 2 ^ 64) := by
  have := emod_range x 64
  simp [inR, IntKind.min, IntKind.max, IntKind.signed, IntKind.bits] at *
  omega
theorem wf2 {n op : Nat} (hn : n < 100) (ho : op < 100) {E : Env} : wfL E 0 (args2 n op) := ⟨in_bits hn, in_bits ho, u64_md _, u64_md _, trivial⟩
theorem wf1 {n op : Nat} (hn : n < 100) (ho : op < 100) {E : Env} : wfL E 0 (args1 n op) := ⟨in_bits hn, in_bits ho, u64_md _, trivial⟩
theorem den2 (n op : Nat) {E : Env} {x y : Int} (e0 : E.va 0 = x) (e1 : E.va 1 = y) (hx : inR .u64 x) (hy : inR .u64 y) : (denL E loc0 (args2 n op)).toArray = #[.int .i64 n, .int .i64 op, .int .u64 x, .int .u64 y] := by
  show #[Value.int .i64 (n : Int), .int .i64 (op : Int), .int .u64 (E.va 0 % 2 ^ 64), .int .u64 (E.va 1 % 2 ^ 64)] = _
  rw [e0, e1, u64_id hx, u64_id hy]
theorem den1 (n op : Nat) {E : Env} {x : Int} (e0 : E.va 0 = x) (hx : inR .u64 x) : (denL E loc0 (args1 n op)).toArray = #[.int .i64 n, .int .i64 op, .int .u64 x] := by
  show #[Value.int .i64 (n : Int), .int .i64 (op : Int), .int .u64 (E.va 0 % 2 ^ 64)] = _
  rw [e0, u64_id hx]
theorem bnd_ok {n : Nat} {e : SE} {E : Env} (h : leO (ub e) n = true) (_ : inR .u64 (e.den E)) : e.den E % 2 ^ n = e.den E := emod_small (leO_ok E h)
/-- a run of two numbers that ends in a number, at keys that hold -/
theorem run_num {f n op m : Nat} (hn : n < 100) (ho : op < 100) {keys : List (SE × SE)} {r : R} (hr : run0 keys f (args2 n op) = r) (hf : fineN m r = true) {x y : Int} (hx : inR .u64 x) (hy : inR .u64 y) (hk : ∀ p ∈ keys, p.1.den (vars2 x y) = p.2.den (vars2 x y)) (w : World) :
    CX Tryz.prog f #[.int .i64 n, .int .i64 op, .int .u64 x, .int .u64 y] w (fun u w' => u = .tuple #[.int .u64 ((numE r).den (vars2 x y)), .int .i64 0] ∧ Below w.heap.size w w' ∧ inR .u64 ((numE r).den (vars2 x y)) ∧ (numE r).den (vars2 x y) % 2 ^ m = (numE r).den (vars2 x y)) := by
  obtain ⟨hp, k, e, hb⟩ := fineN_ok hf
  have hc := leaf_cx (hr.trans e) (vars2 x y) hk (wf2 hn ho) w
  rw [den2 n op rfl rfl hx hy] at hc
  refine cx_mono hc fun v w' h => ?_
  obtain ⟨⟨loc', h1⟩, h2, h3, _⟩ := h
  exact ⟨h1, h2, h3, bnd_ok hb h3⟩
theorem run_bool {f n op : Nat} (hn : n < 100) (ho : op < 100) {r : R} (hr : run0 [] f (args2 n op) = r) (hf : fineB r = true) {x y : Int} (hx : inR .u64 x) (hy : inR .u64 y) (w : World) :
    CX Tryz.prog f #[.int .i64 n, .int .i64 op, .int .u64 x, .int .u64 y] w (fun u w' => u = .tuple #[.bool (decide ((numE r).den (vars2 x y) ≠ 0)), .int .i64 0] ∧ Below w.heap.size w w') := by
  obtain ⟨hp, k, e, _⟩ := fineB_ok hf
  have hc := leaf_cx (hr.trans e) (vars2 x y) (fun p hp => by cases hp) (wf2 hn ho) w
  rw [den2 n op rfl rfl hx hy] at hc
  refine cx_mono hc fun v w' h => ?_
  obtain ⟨⟨loc', h1⟩, h2, _⟩ := h
  exact ⟨h1, h2⟩
theorem run_one {f n op m : Nat} (hn : n < 100) (ho : op < 100) {keys : List (SE × SE)} {r : R} (hr : run0 keys f (args1 n op) = r) (hf : fineN m r = true) {x : Int} (hx : inR .u64 x) (hk : ∀ p ∈ keys, p.1.den (vars2 x 0) = p.2.den (vars2 x 0)) (w : World) :
    CX Tryz.prog f #[.int .i64 n, .int .i64 op, .int .u64 x] w (fun u w' => u = .tuple #[.int .u64 ((numE r).den (vars2 x 0)), .int .i64 0] ∧ Below w.heap.size w w' ∧ inR .u64 ((numE r).den (vars2 x 0)) ∧ (numE r).den (vars2 x 0) % 2 ^ m = (numE r).den (vars2 x 0)) := by
  obtain ⟨hp, k, e, hb⟩ := fineN_ok hf
  have hc := leaf_cx (hr.trans e) (vars2 x 0) hk (wf1 hn ho) w
  rw [den1 n op rfl hx] at hc
  refine cx_mono hc fun v w' h => ?_
  obtain ⟨⟨loc', h1⟩, h2, h3, _⟩ := h
  exact ⟨h1, h2, h3, bnd_ok hb h3⟩

/-! two functions that come to the same -/
def sameE (n : Nat) (a b : SE) : Bool := cond (SE.beq a b) true (sameBits n a b)
theorem sameE_ok {n : Nat} {a b : SE} (h : sameE n a b = true) (E : Env) : a.den E = b.den E := by
  unfold sameE at h
  cases h1 : SE.beq a b <;> rw [h1] at h
  · exact sameBits_ok E h
  · rw [SE.beq_eq h1]
/-- is a result the same as the other one's? -/
def agreeN (n : Nat) (r s : R) : Bool := cond (fineN 64 r) (cond (fineN n s) (sameE n (numE r) (numE s)) false) false
def agreeB (r s : R) : Bool := cond (fineB r) (cond (fineB s) (SE.beq (numE r) (numE s)) false) false
/-- are these two expressions what they come to? -/
def twoN (n : Nat) (r s : R) (a b : SE) : Bool := cond (fineN 64 r) (cond (fineN n s) (cond (SE.beq (numE r) a) (SE.beq (numE s) b) false) false) false
theorem agreeN_ok {n : Nat} {r s : R} (h : agreeN n r s = true) : fineN 64 r = true ∧ fineN n s = true ∧ ∀ E, (numE r).den E = (numE s).den E := by
  unfold agreeN at h
  cases h1 : fineN 64 r <;> rw [h1] at h <;> try (cases h; done)
  cases h2 : fineN n s <;> rw [h2] at h <;> try (cases h; done)
  exact ⟨rfl, rfl, sameE_ok h⟩
theorem agreeB_ok {r s : R} (h : agreeB r s = true) : fineB r = true ∧ fineB s = true ∧ ∀ E, (numE r).den E = (numE s).den E := by
  unfold agreeB at h
  cases h1 : fineB r <;> rw [h1] at h <;> try (cases h; done)
  cases h2 : fineB s <;> rw [h2] at h <;> try (cases h; done)
  exact ⟨rfl, rfl, fun E => by rw [SE.beq_eq h]⟩
theorem twoN_ok {n : Nat} {r s : R} {a b : SE} (h : twoN n r s a b = true) : fineN 64 r = true ∧ fineN n s = true ∧ numE r = a ∧ numE s = b := by
  unfold twoN at h
  cases h1 : fineN 64 r <;> rw [h1] at h <;> try (cases h; done)
  cases h2 : fineN n s <;> rw [h2] at h <;> try (cases h; done)
  cases h3 : SE.beq (numE r) a <;> rw [h3] at h <;> try (cases h; done)
  exact ⟨rfl, rfl, SE.beq_eq h3, SE.beq_eq h⟩
/-- the program's function and another one -/
theorem leafB_both {f n op : Nat} (hn : n < 100) (ho : op < 100) (hs : isSh op = false) (h1 : fineN 64 (run0 [] f (args2 n op)) = true) (h2 : fineN n (run0 [] 63 (args2 n op)) = true)
    (h3 : ∀ x y, inR .u64 x → inR .u64 y → (numE (run0 [] f (args2 n op))).den (vars2 x y) = (numE (run0 [] 63 (args2 n op))).den (vars2 x y)) : LeafB f n op ∧ LeafB 63 n op := by
  have h63 : LeafB 63 n op := fun x y hx hy w => by
    refine cx_mono (run_num hn ho rfl h2 hx hy (fun p hp => by cases hp) w) fun v w' ⟨e1, e2, e3, e4⟩ => ⟨?_, e2⟩
    rw [e1, F2_bin hn ho, keyB, hs, Bool.cond_false, e4]
  refine ⟨fun x y hx hy w => ?_, h63⟩
  refine cx_mono (run_num hn ho rfl h1 hx hy (fun p hp => by cases hp) w) fun v w' ⟨e1, e2, e3, e4⟩ => ⟨?_, e2⟩
  obtain ⟨_, _, _, hb⟩ := fineN_ok h2
  rw [e1, F2_bin hn ho, keyB, hs, Bool.cond_false]
  rw [h3 x y hx hy] at e3 ⊢
  rw [bnd_ok hb e3]
theorem leafB_agree {f n op : Nat} (hn : n < 100) (ho : op < 100) (hs : isSh op = false) (h : agreeN n (run0 [] f (args2 n op)) (run0 [] 63 (args2 n op)) = true) : LeafB f n op ∧ LeafB 63 n op := by
  obtain ⟨h1, h2, h3⟩ := agreeN_ok h
  exact leafB_both hn ho hs h1 h2 fun x y _ _ => h3 _
theorem leafB_two {f n op : Nat} (hn : n < 100) (ho : op < 100) (hs : isSh op = false) {a b : SE} (h : twoN n (run0 [] f (args2 n op)) (run0 [] 63 (args2 n op)) a b = true) (hd : ∀ x y, inR .u64 x → inR .u64 y → a.den (vars2 x y) = b.den (vars2 x y)) : LeafB f n op ∧ LeafB 63 n op := by
  obtain ⟨h1, h2, h3, h4⟩ := twoN_ok h
  exact leafB_both hn ho hs h1 h2 fun x y hx hy => by rw [h3, h4]; exact hd x y hx hy
theorem leafR_agree {f n op : Nat} (hn : n < 100) (hp : 0 < n) (ho : op < 100) (h : agreeB (run0 [] f (args2 n op)) (run0 [] 106 (args2 n op)) = true) : LeafR f n op ∧ LeafR 106 n op := by
  obtain ⟨h1, h2, h3⟩ := agreeB_ok h
  have both : ∀ g, fineB (run0 [] g (args2 n op)) = true → (∀ E, (numE (run0 [] g (args2 n op))).den E = (numE (run0 [] 106 (args2 n op))).den E) → LeafR g n op := by
    intro g hg he x y hx hy w
    refine cx_mono (run_bool hn ho rfl hg hx hy w) fun v w' ⟨e1, e2⟩ => ⟨?_, e2⟩
    obtain ⟨_, _, _, hl⟩ := fineB_ok h2
    have hb := isB_ok (vars2 x y) hl
    have : (1 : Int) < 2 ^ n := by have := two_pow_mono hp; simp at this; omega
    rw [e1, he, F2_rel hn ho, emod_small ⟨by omega, by omega⟩]
  exact ⟨both f h1 h3, both 106 h2 fun _ => rfl⟩
theorem leafU_both {f n op : Nat} (hn : n < 100) (ho : op < 100) (hs : isPc op = false) (h1 : fineN 64 (run0 [] f (args1 n op)) = true) (h2 : fineN n (run0 [] 97 (args1 n op)) = true)
    (h3 : ∀ x, inR .u64 x → (numE (run0 [] f (args1 n op))).den (vars2 x 0) = (numE (run0 [] 97 (args1 n op))).den (vars2 x 0)) : LeafU f n op ∧ LeafU 97 n op := by
  refine ⟨fun x hx w => ?_, fun x hx w => ?_⟩
  · refine cx_mono (run_one hn ho rfl h1 hx (fun p hp => by cases hp) w) fun v w' ⟨e1, e2, e3, e4⟩ => ⟨?_, e2⟩
    obtain ⟨_, _, _, hb⟩ := fineN_ok h2
    rw [e1, F1_un hn ho, keyU, hs, Bool.cond_false]
    rw [h3 x hx] at e3 ⊢
    rw [bnd_ok hb e3]
  · refine cx_mono (run_one hn ho rfl h2 hx (fun p hp => by cases hp) w) fun v w' ⟨e1, e2, e3, e4⟩ => ⟨?_, e2⟩
    rw [e1, F1_un hn ho, keyU, hs, Bool.cond_false, e4]
theorem leafU_agree {f n op : Nat} (hn : n < 100) (ho : op < 100) (hs : isPc op = false) (h : agreeN n (run0 [] f (args1 n op)) (run0 [] 97 (args1 n op)) = true) : LeafU f n op ∧ LeafU 97 n op := by
  obtain ⟨h1, h2, h3⟩ := agreeN_ok h
  exact leafU_both hn ho hs h1 h2 fun x _ => h3 _
theorem leafU_two {f n op : Nat} (hn : n < 100) (ho : op < 100) (hs : isPc op = false) {a b : SE} (h : twoN n (run0 [] f (args1 n op)) (run0 [] 97 (args1 n op)) a b = true) (hd : ∀ x, inR .u64 x → a.den (vars2 x 0) = b.den (vars2 x 0)) : LeafU f n op ∧ LeafU 97 n op := by
  obtain ⟨h1, h2, h3, h4⟩ := twoN_ok h
  exact leafU_both hn ho hs h1 h2 fun x hx => by rw [h3, h4]; exact hd x hx
theorem key_holds {n : Nat} (hp : n = 2 ^ Nat.log2 n) (x y : Int) : ∃ k, k < n ∧ (y % 2 ^ Nat.log2 n).toNat = k ∧ ∀ p ∈ keyK n k, p.1.den (vars2 x y) = p.2.den (vars2 x y) := by
  obtain ⟨k, hk⟩ := Int.eq_ofNat_of_zero_le (emod_range y (Nat.log2 n)).1
  refine ⟨k, ?_, by rw [hk]; rfl, fun p hp => ?_⟩
  · have := (emod_range y (Nat.log2 n)).2
    rw [hk] at this
    have e : ((k : Nat) : Int) < ((2 ^ Nat.log2 n : Nat) : Int) := by simpa using this
    rw [← hp] at e
    exact_mod_cast e
  · have : p = (.md (.var 1) (Nat.log2 n), .lit (.ofNat k)) := by simpa [keyK] using hp
    subst this
    exact hk
/-- a move, by the program and by another -/
theorem leafB_keyed {f n op : Nat} (h64 : n ≤ 64) (hn : n < 100) (ho : op < 100) (hs : isSh op = true) (hp : n = 2 ^ Nat.log2 n) (h : ∀ k, k < n → agreeN n (run0 (keyK n k) f (args2 n op)) (run0 (keyK n k) 63 (args2 n op)) = true) : LeafB f n op ∧ LeafB 63 n op := by
  have both : ∀ g, (∀ k, k < n → fineN 64 (run0 (keyK n k) g (args2 n op)) = true ∧ fineN n (run0 (keyK n k) 63 (args2 n op)) = true ∧ ∀ E, (numE (run0 (keyK n k) g (args2 n op))).den E = (numE (run0 (keyK n k) 63 (args2 n op))).den E) → LeafB g n op := by
    intro g hg x y hx hy w
    obtain ⟨k, hlt, hk, hkeys⟩ := key_holds hp x y
    obtain ⟨h1, h2, h3⟩ := hg k hlt
    refine cx_mono (run_num hn ho rfl h1 hx hy hkeys w) fun v w' ⟨e1, e2, e3, e4⟩ => ⟨?_, e2⟩
    obtain ⟨_, _, _, hl⟩ := fineN_ok h2
    rw [e1, F2_bin hn ho, keyB, hs, Bool.cond_true, hk]
    rw [h3] at e3 ⊢
    rw [bnd_ok hl e3]
  have ha := fun k hk => agreeN_ok (h k hk)
  exact ⟨both f ha, both 63 fun k hk => ⟨fineN_mono h64 (ha k hk).2.1, (ha k hk).2.1, fun _ => rfl⟩⟩
theorem keyC_holds (x : Int) : ∃ k, k < 256 ∧ (x % 2 ^ 8).toNat = k ∧ ∀ p ∈ keyC k, p.1.den (vars2 x 0) = p.2.den (vars2 x 0) := by
  obtain ⟨k, hk⟩ := Int.eq_ofNat_of_zero_le (emod_range x 8).1
  refine ⟨k, ?_, by rw [hk]; rfl, fun p hp => ?_⟩
  · have := (emod_range x 8).2
    omega
  · have : p = (.md (.var 0) 8, .lit (.ofNat k)) := by simpa [keyC] using hp
    subst this
    exact hk
/-- of the bits of a byte, byte by byte -/
theorem leafU_keyed {f op : Nat} (ho : op < 100) (hs : isPc op = true) (h : ∀ k, k < 256 → agreeN 8 (run0 (keyC k) f (args1 8 op)) (run0 (keyC k) 97 (args1 8 op)) = true) : LeafU f 8 op ∧ LeafU 97 8 op := by
  have both : ∀ g, (∀ k, k < 256 → fineN 64 (run0 (keyC k) g (args1 8 op)) = true ∧ fineN 8 (run0 (keyC k) 97 (args1 8 op)) = true ∧ ∀ E, (numE (run0 (keyC k) g (args1 8 op))).den E = (numE (run0 (keyC k) 97 (args1 8 op))).den E) → LeafU g 8 op := by
    intro g hg x hx w
    obtain ⟨k, hlt, hk, hkeys⟩ := keyC_holds x
    obtain ⟨h1, h2, h3⟩ := hg k hlt
    refine cx_mono (run_one (by decide) ho rfl h1 hx hkeys w) fun v w' ⟨e1, e2, e3, e4⟩ => ⟨?_, e2⟩
    obtain ⟨_, _, _, hl⟩ := fineN_ok h2
    rw [e1, F1_un (by decide) ho, keyU, hs, Bool.cond_true, hk]
    rw [h3] at e3 ⊢
    rw [bnd_ok hl e3]
  have ha := fun k hk => agreeN_ok (h k hk)
  exact ⟨both f ha, both 97 fun k hk => ⟨fineN_mono (by decide) (ha k hk).2.1, (ha k hk).2.1, fun _ => rfl⟩⟩

/-! summaries -/
def memP (l : List (Nat × Nat)) (n op : Nat) : Bool := match l with
  | [] => false
  | (a, b) :: t => cond (Nat.beq a n) (cond (Nat.beq b op) true (memP t n op)) (memP t n op)
theorem memP_ok : ∀ {l : List (Nat × Nat)} {n op : Nat}, memP l n op = true → (n, op) ∈ l := by
  intro l
  induction l with
  | nil => intro n op h; cases h
  | cons p l ih =>
    obtain ⟨a, b⟩ := p
    intro n op h
    simp only [memP] at h
    cases h1 : Nat.beq a n <;> rw [h1] at h
    · exact List.mem_cons_of_mem _ (ih h)
    · cases h2 : Nat.beq b op <;> rw [h2] at h
      · exact List.mem_cons_of_mem _ (ih h)
      · rw [Nat.eq_of_beq_eq_true h1, Nat.eq_of_beq_eq_true h2]; exact List.mem_cons_self
def smBin (l : List (Nat × Nat)) : Sm := fun a hp nx => match a with
  | [.int .i64 (.lit (.ofNat n)), .int .i64 (.lit (.ofNat op)), .int .u64 a, .int .u64 b] => cond (memP l n op) (cond (and (isLit a) (isLit b)) none (some (.tup [.int .u64 (.f2 (codeB n op) a b), .int .i64 (.lit 0)], hp, nx))) none
  | _ => none
def smRel (l : List (Nat × Nat)) : Sm := fun a hp nx => match a with
  | [.int .i64 (.lit (.ofNat n)), .int .i64 (.lit (.ofNat op)), .int .u64 a, .int .u64 b] => cond (memP l n op) (some (.tup [.bool (.f2 (codeR n op) a b), .int .i64 (.lit 0)], hp, nx)) none
  | _ => none
def smUn (l : List (Nat × Nat)) : Sm := fun a hp nx => match a with
  | [.int .i64 (.lit (.ofNat n)), .int .i64 (.lit (.ofNat op)), .int .u64 a] => cond (memP l n op) (some (.tup [.int .u64 (.f1 (codeU n op) a), .int .i64 (.lit 0)], hp, nx)) none
  | _ => none
def small (l : List (Nat × Nat)) : Prop := ∀ p ∈ l, p.1 ≤ 64 ∧ p.2 < 100
theorem u64_of_mod {x : Int} {n : Nat} (h : n ≤ 64) : inR .u64 (x % 2 ^ n) := by
  have h1 := emod_range x n
  have h2 := two_pow_mono h
  simp [inR, IntKind.min, IntKind.max, IntKind.signed, IntKind.bits] at *
  omega
theorem codeB_mod {n op : Nat} (hn : n ≤ 64) : codeB n op % 100 = n := by unfold codeB; omega
theorem codeR_mod {n op : Nat} (hn : n ≤ 64) : codeR n op % 100 = n := by unfold codeR; omega
theorem codeU_mod {n op : Nat} (hn : n ≤ 64) : codeU n op % 100 = n := by unfold codeU; omega
theorem smBin_ok {va : Nat → Int} {G : Gl} {f : FuncId} {l : List (Nat × Nat)} (hs : small l) (h : ∀ p ∈ l, LeafB f p.1 p.2) : SmOk (EE va) Tryz.prog G f (smBin l) := by
  intro args hp nx v hp' nx' hv loc w hr hg hw
  unfold smBin at hv
  split at hv
  · rename_i n op a b
    cases h1 : memP l n op <;> rw [h1] at hv <;> try (cases hv; done)
    cases h2 : and (isLit a) (isLit b) <;> rw [h2] at hv <;> cases hv
    have hm := memP_ok h1
    obtain ⟨s1, s2⟩ := hs _ hm
    obtain ⟨_, _, wa, wb, _⟩ := hw
    refine cx_mono (h _ hm _ _ wa wb w) fun u w' ⟨e1, e2⟩ => ⟨loc, ?_, step_of_below hr e2 ⟨?_, ?_, trivial⟩⟩
    · rw [e1]
      simp only [SV.den, denL, SE.den, codeB_mod s1]
      rfl
    · simp only [SV.wf, SE.den, codeB_mod s1]
      exact u64_of_mod s1
    · exact in_bits (n := 0) (by decide)
  · cases hv
theorem smRel_ok {va : Nat → Int} {G : Gl} {f : FuncId} {l : List (Nat × Nat)} (hs : small l) (h : ∀ p ∈ l, LeafR f p.1 p.2) : SmOk (EE va) Tryz.prog G f (smRel l) := by
  intro args hp nx v hp' nx' hv loc w hr hg hw
  unfold smRel at hv
  split at hv
  · rename_i n op a b
    cases h1 : memP l n op <;> rw [h1] at hv <;> cases hv
    have hm := memP_ok h1
    obtain ⟨s1, s2⟩ := hs _ hm
    obtain ⟨_, _, wa, wb, _⟩ := hw
    refine cx_mono (h _ hm _ _ wa wb w) fun u w' ⟨e1, e2⟩ => ⟨loc, ?_, step_of_below hr e2 ⟨trivial, ?_, trivial⟩⟩
    · rw [e1]
      simp only [SV.den, denL, SE.den, codeR_mod s1]
      rfl
    · exact in_bits (n := 0) (by decide)
  · cases hv
theorem smUn_ok {va : Nat → Int} {G : Gl} {f : FuncId} {l : List (Nat × Nat)} (hs : small l) (h : ∀ p ∈ l, LeafU f p.1 p.2) : SmOk (EE va) Tryz.prog G f (smUn l) := by
  intro args hp nx v hp' nx' hv loc w hr hg hw
  unfold smUn at hv
  split at hv
  · rename_i n op a
    cases h1 : memP l n op <;> rw [h1] at hv <;> cases hv
    have hm := memP_ok h1
    obtain ⟨s1, s2⟩ := hs _ hm
    obtain ⟨_, _, wa, _⟩ := hw
    refine cx_mono (h _ hm _ wa w) fun u w' ⟨e1, e2⟩ => ⟨loc, ?_, step_of_below hr e2 ⟨?_, ?_, trivial⟩⟩
    · rw [e1]
      simp only [SV.den, denL, SE.den, codeU_mod s1]
      rfl
    · simp only [SV.wf, SE.den, codeU_mod s1]
      exact u64_of_mod s1
    · exact in_bits (n := 0) (by decide)
  · cases hv

end Sx
end Go.Proofs.YtfdggebddcoeeaaGreatDoor
end
