/-
  The program's quotient of floats: what the evaluator finds.
-/
import Derived.Test.YtfdggebddcoeeaaGreatDoorFbMu
import Derived.Test.YtfdggebddcoeeaaGreatDoorFbDw
set_option linter.unusedVariables false
set_option linter.unusedSimpArgs false
set_option maxRecDepth 100000
noncomputable section
namespace Go.Proofs.YtfdggebddcoeeaaGreatDoor
namespace Sx
open Go Go.RowKit

/-- Div64 at one place -/
def smDv (M K Q R : SE) : Sm := fun a hp nx => match a with
  | [.int .u64 x, .int .u64 y, .int .u64 z] => cond (SE.beq x M) (cond (SE.beq y (.lit 0)) (cond (SE.beq z K) (some (.tup [.int .u64 Q, .int .u64 R], hp, nx)) none) none) none
  | _ => none
theorem smDv_ok {va : Nat → Int} {G : Gl} {M K Q R : SE} {m k : Nat} (hM : M.den (EG va) = m) (hK : K.den (EG va) = k) (hQ : Q.den (EG va) = (m * 2 ^ 64 / k : Nat)) (hR : R.den (EG va) = (m * 2 ^ 64 % k : Nat)) (h0 : 0 < m) (hm : m < k) (hk1 : 2 ^ 63 ≤ k) (hk2 : k < 2 ^ 64) : SmOk (EG va) Tryz.prog G 203 (smDv M K Q R) := by
  intro args hp nx v hp' nx' hv loc w hr hg hw
  unfold smDv at hv
  split at hv
  · rename_i x y z
    cases h1 : SE.beq x M <;> rw [h1] at hv <;> try (cases hv; done)
    cases h2 : SE.beq y (.lit 0) <;> rw [h2] at hv <;> try (cases hv; done)
    cases h3 : SE.beq z K <;> rw [h3] at hv <;> cases hv
    have hden : (denL (EG va) loc [.int .u64 x, .int .u64 y, .int .u64 z]).toArray = #[.int .u64 (m : Int), .int .u64 0, .int .u64 (k : Int)] := by
      rw [SE.beq_eq h1, SE.beq_eq h2, SE.beq_eq h3]
      show #[Value.int .u64 (M.den (EG va)), .int .u64 0, .int .u64 (K.den (EG va))] = _
      rw [hM, hK]
    rw [hden]
    have hq : m * 2 ^ 64 / k < 2 ^ 64 := by
      refine (Nat.div_lt_iff_lt_mul (by omega)).2 ?_
      omega
    have hr' := Nat.mod_lt (m * 2 ^ 64) (show 0 < k by omega)
    refine cx_of_calls okP Tryz.func203 (by kernel_rfl) ((div64_nat h0 hm hk1 hk2 w).mono fun e w' ⟨h1, h2⟩ => ?_)
    subst h1 h2
    refine ⟨loc, ?_, step_of_below hr (Below.refl _ _) ⟨?_, ?_, trivial⟩⟩
    · simp only [SV.den, denL]
      rw [hQ, hR]
    · simp only [SV.wf]
      rw [hQ]
      exact nat_u64 hq
    · simp only [SV.wf]
      rw [hR]
      exact nat_u64 (by omega)
  · cases hv
def e13v (i : Nat) : SE := .sub (.md (.var i) 13) (.lit 5000)
def upE (n : Nat) (w : SE) : SE := .sub (.lit 64) (lenE (magE n w))
def m64 (i : Nat) : SE := .md (.var i) 64
def tallE (n : Nat) (w : SE) : SE := .wrap .u64 (.shl (magE n w) (amt .u64 (mkWrap .u64 (upE n w))))
def dM (t : Bool) : SE := cond t (m64 6) (m64 2)
def dE1 (t : Bool) : SE := cond t (e13v 7) (e13v 3)
def dQ : SE := .add (m64 8) (.lit 288230376151711744)
def divK (n : Nat) (t more : Bool) : List (SE × SE) := [(mkEq (sA n) (.lit (.ofNat (infR n))), .lit 0), (mkEq (sB n) (.lit (.ofNat (infR n))), .lit 0), (mkEq (sA n) (.lit 0), .lit 0), (mkEq (sB n) (.lit 0), .lit 0),
  (tallE n (wA n), m64 2), (mkWrap .i64 (mkSub (plcE n (wA n)) (upE n (wA n))), e13v 3), (tallE n (wB n), m64 4), (mkWrap .i64 (mkSub (plcE n (wB n)) (upE n (wB n))), e13v 5), (mkNot (mkLt (m64 2) (m64 4)), b01 t),
  (mkNot (mkEq (m64 9) (.lit 0)), b01 more), (mkWrap .i64 (mkSub (mkWrap .i64 (mkSub (dE1 t) (e13v 5))) (.lit 64)), e13v 10)] ++ cond t [(mkShr (m64 2) 1, m64 6), (mkWrap .i64 (mkAdd (e13v 3) (.lit 1)), e13v 7)] []
def sumsV (t : Bool) : Tr Sm := sumsG.set 203 (smDv (dM t) (m64 4) dQ (m64 9))
theorem div_f : ([32, 64].all fun n => [false, true].all fun t => [false, true].all fun more => isUE (runV (sumsV t) (divK n t more) 157 (argsF n)) (sgE n (xorE n) (rngE n more dQ (e13v 10)))) = true := by kernel_rfl
theorem div_n : ([32, 64].all fun n => [(true, true, false, false), (false, false, true, true)].all fun k => isUE (runV sumsG (mulKi n k.1 k.2.1 k.2.2.1 k.2.2.2) 157 (argsF n)) (.lit (.ofNat (nanR n)))) = true := by kernel_rfl
theorem div_i : ([32, 64].all fun n => [(true, false, false, false), (true, false, false, true), (false, false, false, true)].all fun k => isUE (runV sumsG (mulKi n k.1 k.2.1 k.2.2.1 k.2.2.2) 157 (argsF n)) (.ite (xorE n) (.lit (.ofNat (infR n + 2 ^ (n - 1)))) (.lit (.ofNat (infR n))))) = true := by kernel_rfl
theorem div_z : ([32, 64].all fun n => [(false, true, false, false), (false, true, true, false), (false, false, true, false)].all fun k => isUE (runV sumsG (mulKi n k.1 k.2.1 k.2.2.1 k.2.2.2) 157 (argsF n)) (.ite (xorE n) (.lit (.ofNat (2 ^ (n - 1)))) (.lit 0))) = true := by kernel_rfl

end Sx
end Go.Proofs.YtfdggebddcoeeaaGreatDoor
end
