/-
  The program's product of floats: what the evaluator finds.
-/
import Derived.Test.YtfdggebddcoeeaaGreatDoorFbPart5
set_option linter.unusedVariables false
set_option linter.unusedSimpArgs false
set_option maxRecDepth 100000
noncomputable section
namespace Go.Proofs.YtfdggebddcoeeaaGreatDoor
namespace Sx
open Go Go.RowKit

def wA (n : Nat) : SE := .md (.var 0) n
def wB (n : Nat) : SE := .md (.var 1) n
def sA (n : Nat) : SE := .md (.var 0) (n - 1)
def sB (n : Nat) : SE := .md (.var 1) (n - 1)
def e13 : SE := .sub (.md (.var 2) 13) (.lit 5000)
def hiAB (n : Nat) : SE := hiE (magE n (wA n)) (magE n (wB n))
def loAB (n : Nat) : SE := loE (magE n (wA n)) (magE n (wB n))
def zAB (n : Nat) : SE := .ite (.lt (.lit 0) (lenE (hiAB n))) (.bit .or .u64 (jamE (loAB n) (lenE (hiAB n))) (.wrap .u64 (.shl (hiAB n) (amt .u64 (mkWrap .u64 (mkWrap .i64 (mkSub (.lit 64) (lenE (hiAB n))))))))) (loAB n)
def xorE (n : Nat) : SE := mkNot (mkEqB (negE n (wA n)) (negE n (wB n)))
def mulKf (n : Nat) : List (SE × SE) := [(mkEq (sA n) (.lit (.ofNat (infR n))), .lit 0), (mkEq (sB n) (.lit (.ofNat (infR n))), .lit 0),
  (mkWrap .i64 (mkAdd (mkWrap .i64 (mkAdd (plcE n (wA n)) (plcE n (wB n)))) (lenE (hiAB n))), e13)]
def mulKi (n : Nat) (ia ib za zb : Bool) : List (SE × SE) := [(mkEq (sA n) (.lit (.ofNat (infR n))), b01 ia), (mkEq (sB n) (.lit (.ofNat (infR n))), b01 ib), (mkEq (sA n) (.lit 0), b01 za), (mkEq (sB n) (.lit 0), b01 zb)]
def nanR (n : Nat) : Nat := infR n + 2 ^ (fb n - 1)
def argsF (n : Nat) : List SV := [fmtV n, .int .u64 (wA n), .int .u64 (wB n)]
theorem mul_f : ([32, 64].all fun n => isUE (runV sumsG (mulKf n) 156 (argsF n)) (sgE n (xorE n) (rngE n false (zAB n) e13))) = true := by kernel_rfl
theorem mul_n : ([32, 64].all fun n => [(true, false, true, false), (true, false, false, true), (true, false, true, true), (false, true, true, false), (false, true, false, true), (false, true, true, true)].all fun k =>
    isUE (runV sumsG (mulKi n k.1 k.2.1 k.2.2.1 k.2.2.2) 156 (argsF n)) (.lit (.ofNat (nanR n)))) = true := by kernel_rfl
theorem mul_i : ([32, 64].all fun n => [(true, false), (false, true), (true, true)].all fun k =>
    isUE (runV sumsG (mulKi n k.1 k.2 false false) 156 (argsF n)) (.ite (xorE n) (.lit (.ofNat (infR n + 2 ^ (n - 1)))) (.lit (.ofNat (infR n))))) = true := by kernel_rfl

end Sx
end Go.Proofs.YtfdggebddcoeeaaGreatDoor
end
