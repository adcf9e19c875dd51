/-
  The program's and the reference's Signed: a number's lowest bits read with a sign; runs of leaf functions at variables.
-/
import Derived.Test.YtfdggebddcoeeaaGreatDoorTySmC
import Derived.Test.YtfdggebddcoeeaaGreatDoorTyBt
set_option linter.unusedVariables false
set_option linter.unusedSimpArgs false
set_option maxRecDepth 100000
noncomputable section
namespace Go.Proofs.YtfdggebddcoeeaaGreatDoor
namespace Sx
open Go Go.RowKit

def sums0 : Tr Sm := (((Tr.lf.set 35 smShaped).set 184 smIdx).set 223 smCnt)
theorem sums0_ok {E : Env} {G : Gl} : SumsOk E Tryz.prog G sums0 := by
  intro f s h
  unfold sums0 at h
  rcases Tr.get_set h with ⟨rfl, rfl⟩ | ⟨_, h⟩
  · exact cnt_ok
  rcases Tr.get_set h with ⟨rfl, rfl⟩ | ⟨_, h⟩
  · exact idx_ok
  rcases Tr.get_set h with ⟨rfl, rfl⟩ | ⟨_, h⟩
  · exact shaped_ok
  · cases h
/-- no package-level variable; these expressions are known -/
def Gz (keys : List (SE × SE)) : Gl := ⟨fun _ => .lf, keys, []⟩
def loc0 : Nat → Nat × Nat := fun _ => (0, 0)
def runV (sums : Tr Sm) (keys : List (SE × SE)) (f : FuncId) (args : List SV) : R := call Tryz.prog (Gz keys) sums 60 f args .lf 0
theorem leafS_cx {E : Env} {sums : Tr Sm} {f : FuncId} {args : List SV} {keys : List (SE × SE)} (hS : SumsOk E Tryz.prog (Gz keys) sums) {sv : SV} {h : Tr SBlk} {k : Nat} (he : runV sums keys f args = some (sv, h, k)) (hk : ∀ p ∈ keys, p.1.den E = p.2.den E) (hw : wfL E 0 args) (w : World) :
    CX Tryz.prog f (denL E loc0 args).toArray w (fun u w' => (∃ loc', u = sv.den E loc') ∧ Below w.heap.size w w' ∧ sv.wf E k) := by
  unfold runV at he
  refine cx_mono (eval_ok okP mixed hS 60 f args .lf 0 sv h k he loc0 w (hrel_lf _ _ _) ⟨⟨hk, fun s hs => by cases hs⟩, fun g i v hv => by cases hv⟩ hw) fun v w' hv => ?_
  obtain ⟨loc', h1, h2⟩ := hv
  exact ⟨⟨loc', h1⟩, h2.bel, h2.wf⟩
def vars2 (x y : Int) : Env := ⟨fun _ _ => 0, fun _ _ _ => 0, fun i => Nat.rec x (fun _ _ => y) i⟩
theorem va0 (x y : Int) : (vars2 x y).va 0 = x := rfl
theorem va1 (x y : Int) : (vars2 x y).va 1 = y := rfl
def numL (n : Nat) : SV := .int .i64 (.lit (.ofNat n))
theorem in_bits {n : Nat} (hn : n < 100) : inR .i64 (n : Int) := by simp [inR, IntKind.min, IntKind.max, IntKind.signed, IntKind.bits]; omega

theorem eq_of_bits_i64 {x y : Int} (hx : inR .i64 x) (hy : inR .i64 y) (h : ∀ i, i < 64 → ibit x i = ibit y i) : x = y := by
  have h1 : x % 2 ^ 64 = y % 2 ^ 64 := eq_of_bits 64 (emod_range _ _) (emod_range _ _) fun i hi => by rw [ibit_mod _ hi, ibit_mod _ hi, h i hi]
  simp [inR, IntKind.min, IntKind.max, IntKind.signed, IntKind.bits] at hx hy
  omega
def kindS (n : Nat) : IntKind := cond (Nat.beq n 8) .i8 (cond (Nat.beq n 16) .i16 (cond (Nat.beq n 32) .i32 .i64))
theorem wrap_in (n : Nat) (x : Int) : inR .i64 ((kindS n).wrap x) := by
  unfold kindS
  cases Nat.beq n 8 <;> cases Nat.beq n 16 <;> cases Nat.beq n 32 <;> simp [IntKind.wrap, inR, IntKind.min, IntKind.max, IntKind.signed, IntKind.bits] <;> omega
def LeafS (f : FuncId) (n : Nat) : Prop := ∀ x : Int, inR .u64 x → ∀ w, CX Tryz.prog f #[.int .i64 n, .int .u64 x] w (fun u w' => u = .int .i64 ((kindS n).wrap x) ∧ Below w.heap.size w w')
def isI (r : R) (e : SE) : Bool := match r with
  | some (v, _, _) => match v with
    | .int k x => cond (decide (k = .i64)) (SE.beq x e) false
    | _ => false
  | none => false
theorem isI_ok {r : R} {e : SE} (h : isI r e = true) : ∃ hp k, r = some (.int .i64 e, hp, k) := by
  unfold isI at h
  repeat' (split at h)
  all_goals first
    | (cases h; done)
    | (rename_i k x
       cases h1 : decide (k = IntKind.i64) <;> rw [h1] at h <;> try (cases h; done)
       rw [of_decide_eq_true h1, SE.beq_eq h]
       exact ⟨_, _, rfl⟩)
def argsS (n : Nat) : List SV := [numL n, .int .u64 (.var 0)]
theorem leafS_of {f n : Nat} (hn : n < 100) {e : SE} (h : isI (runV sums0 [] f (argsS n)) e = true) (hd : ∀ x, inR .u64 x → inR .i64 (e.den (vars2 x 0)) → e.den (vars2 x 0) = (kindS n).wrap x) : LeafS f n := by
  intro x hx w
  obtain ⟨hp, k, he⟩ := isI_ok h
  refine cx_mono (leafS_cx (E := vars2 x 0) sums0_ok he (fun p hp => by cases hp) ⟨in_bits hn, hx, trivial⟩ w) fun v w' hv => ?_
  obtain ⟨⟨loc', h1⟩, h2, h3⟩ := hv
  have h4 := hd x hx h3
  exact ⟨by rw [h1, ← h4]; rfl, h2⟩
theorem signed_bits {n : Nat} {e : SE} (h : allN (fun i => BF.beq (bitAt e i) (bitAt (.wrap (kindS n) (.var 0)) i)) 64 = true) (x : Int) (_ : inR .u64 x) (hi : inR .i64 (e.den (vars2 x 0))) : e.den (vars2 x 0) = (kindS n).wrap x := by
  refine eq_of_bits_i64 hi (wrap_in n x) fun i h64 => ?_
  have h1 := BF.beq_eq (allN_ok h i h64)
  rw [← bitAt_ok, h1, bitAt_ok]
  rfl
theorem signed83_8 : LeafS 83 8 := leafS_of (e := (.shr (.wrap .i64 (.wrap .u64 (.shl (.var 0) (.lit 56)))) (.lit 56))) (by decide) (by kernel_rfl) (signed_bits (by kernel_rfl))
theorem signed109_8 : LeafS 109 8 := leafS_of (e := (.ite (.eq (.shr (.md (.var 0) 8) (.lit 7)) (.lit 1)) (.wrap .i64 (.sub (.wrap .i64 (.sub (.lit 0) (.wrap .i64 (.wrap .u64 (.sub (.md (.wrap .u64 (.sub (.lit 0) (.md (.var 0) 8))) 8) (.lit 1)))))) (.lit 1))) (.md (.var 0) 8))) (by decide) (by kernel_rfl) fun x hx _ => by
  simp [inR, IntKind.min, IntKind.max, IntKind.signed, IntKind.bits] at hx
  have hk : kindS 8 = .i8 := rfl
  simp only [SE.den, va0, hk, IntKind.wrap, IntKind.bits, IntKind.signed, Bool.true_and, Bool.false_and, decide_eq_true_eq, ge_iff_le]
  simp only [Int.reducePow, Int.reduceToNat, Nat.reduceSub, Bool.false_eq_true, if_false]
  omega
theorem signed83_16 : LeafS 83 16 := leafS_of (e := (.shr (.wrap .i64 (.wrap .u64 (.shl (.var 0) (.lit 48)))) (.lit 48))) (by decide) (by kernel_rfl) (signed_bits (by kernel_rfl))
theorem signed109_16 : LeafS 109 16 := leafS_of (e := (.ite (.eq (.shr (.md (.var 0) 16) (.lit 15)) (.lit 1)) (.wrap .i64 (.sub (.wrap .i64 (.sub (.lit 0) (.wrap .i64 (.wrap .u64 (.sub (.md (.wrap .u64 (.sub (.lit 0) (.md (.var 0) 16))) 16) (.lit 1)))))) (.lit 1))) (.md (.var 0) 16))) (by decide) (by kernel_rfl) fun x hx _ => by
  simp [inR, IntKind.min, IntKind.max, IntKind.signed, IntKind.bits] at hx
  have hk : kindS 16 = .i16 := rfl
  simp only [SE.den, va0, hk, IntKind.wrap, IntKind.bits, IntKind.signed, Bool.true_and, Bool.false_and, decide_eq_true_eq, ge_iff_le]
  simp only [Int.reducePow, Int.reduceToNat, Nat.reduceSub, Bool.false_eq_true, if_false]
  omega
theorem signed83_32 : LeafS 83 32 := leafS_of (e := (.shr (.wrap .i64 (.wrap .u64 (.shl (.var 0) (.lit 32)))) (.lit 32))) (by decide) (by kernel_rfl) (signed_bits (by kernel_rfl))
theorem signed109_32 : LeafS 109 32 := leafS_of (e := (.ite (.eq (.shr (.md (.var 0) 32) (.lit 31)) (.lit 1)) (.wrap .i64 (.sub (.wrap .i64 (.sub (.lit 0) (.wrap .i64 (.wrap .u64 (.sub (.md (.wrap .u64 (.sub (.lit 0) (.md (.var 0) 32))) 32) (.lit 1)))))) (.lit 1))) (.md (.var 0) 32))) (by decide) (by kernel_rfl) fun x hx _ => by
  simp [inR, IntKind.min, IntKind.max, IntKind.signed, IntKind.bits] at hx
  have hk : kindS 32 = .i32 := rfl
  simp only [SE.den, va0, hk, IntKind.wrap, IntKind.bits, IntKind.signed, Bool.true_and, Bool.false_and, decide_eq_true_eq, ge_iff_le]
  simp only [Int.reducePow, Int.reduceToNat, Nat.reduceSub, Bool.false_eq_true, if_false]
  omega
theorem signed83_64 : LeafS 83 64 := leafS_of (e := (.wrap .i64 (.wrap .u64 (.var 0)))) (by decide) (by kernel_rfl) (signed_bits (by kernel_rfl))
theorem signed109_64 : LeafS 109 64 := leafS_of (e := (.ite (.eq (.md (.shr (.var 0) (.lit 63)) 1) (.lit 1)) (.wrap .i64 (.sub (.wrap .i64 (.sub (.lit 0) (.wrap .i64 (.wrap .u64 (.sub (.wrap .u64 (.sub (.lit 0) (.var 0))) (.lit 1)))))) (.lit 1))) (.wrap .i64 (.var 0)))) (by decide) (by kernel_rfl) fun x hx _ => by
  simp [inR, IntKind.min, IntKind.max, IntKind.signed, IntKind.bits] at hx
  have hk : kindS 64 = .i64 := rfl
  simp only [SE.den, va0, hk, IntKind.wrap, IntKind.bits, IntKind.signed, Bool.true_and, Bool.false_and, decide_eq_true_eq, ge_iff_le]
  simp only [Int.reducePow, Int.reduceToNat, Nat.reduceSub, Bool.false_eq_true, if_false]
  omega
def sizes : List Nat := [8, 16, 32, 64]
def memN : List Nat → Nat → Bool
  | [], _ => false
  | a :: t, n => cond (Nat.beq a n) true (memN t n)
theorem memN_ok : ∀ {l : List Nat} {n : Nat}, memN l n = true → n ∈ l := by
  intro l
  induction l with
  | nil => intro n h; cases h
  | cons a l ih =>
    intro n h
    simp only [memN] at h
    cases h1 : Nat.beq a n <;> rw [h1] at h
    · exact List.mem_cons_of_mem _ (ih h)
    · rw [Nat.eq_of_beq_eq_true h1]; exact List.mem_cons_self
def isLit : SE → Bool
  | .lit _ => true
  | _ => false
def smSg : Sm := fun a hp nx => match a with
  | [.int .i64 (.lit (.ofNat n)), .int .u64 a] => cond (memN sizes n) (cond (isLit a) none (some (.int .i64 (.wrap (kindS n) a), hp, nx))) none
  | _ => none
theorem smSg_ok {E : Env} {G : Gl} {f : FuncId} (h : ∀ n ∈ sizes, LeafS f n) : SmOk E Tryz.prog G f smSg := by
  intro args hp nx v hp' nx' hv loc w hr hg hw
  unfold smSg at hv
  split at hv
  · rename_i n a
    cases h1 : memN sizes n <;> rw [h1] at hv <;> try (cases hv; done)
    cases h2 : isLit a <;> rw [h2] at hv <;> cases hv
    obtain ⟨_, wa, _⟩ := hw
    refine cx_mono (h n (memN_ok h1) _ wa w) fun u w' ⟨e1, e2⟩ => ⟨loc, ?_, step_of_below hr e2 (wrap_in n _)⟩
    rw [e1]
    rfl
  · cases hv
theorem all_sizes {p : Nat → Prop} (h8 : p 8) (h16 : p 16) (h32 : p 32) (h64 : p 64) : ∀ n ∈ sizes, p n := by
  intro n h
  simp only [sizes, List.mem_cons, List.not_mem_nil, or_false] at h
  rcases h with rfl | rfl | rfl | rfl
  · exact h8
  · exact h16
  · exact h32
  · exact h64
/-- with Signed known -/
def sums1 : Tr Sm := (sums0.set 83 smSg).set 109 smSg
theorem sums1_ok {E : Env} {G : Gl} : SumsOk E Tryz.prog G sums1 := by
  intro f s h
  unfold sums1 at h
  rcases Tr.get_set h with ⟨rfl, rfl⟩ | ⟨_, h⟩
  · exact smSg_ok (all_sizes signed109_8 signed109_16 signed109_32 signed109_64)
  rcases Tr.get_set h with ⟨rfl, rfl⟩ | ⟨_, h⟩
  · exact smSg_ok (all_sizes signed83_8 signed83_16 signed83_32 signed83_64)
  · exact sums0_ok f s h

end Sx
end Go.Proofs.YtfdggebddcoeeaaGreatDoor
end
