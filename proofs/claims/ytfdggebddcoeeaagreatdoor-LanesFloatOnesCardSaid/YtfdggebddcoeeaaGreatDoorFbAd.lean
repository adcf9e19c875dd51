/-
  The program's sum of floats: what the evaluator finds.
-/
import Derived.Test.YtfdggebddcoeeaaGreatDoorFbMu
set_option linter.unusedVariables false
set_option linter.unusedSimpArgs false
set_option maxRecDepth 100000
noncomputable section
namespace Go.Proofs.YtfdggebddcoeeaaGreatDoor
namespace Sx
open Go Go.RowKit

/-- the greater one, the other one -/
def wP (n : Nat) (sw : Bool) : SE := cond sw (wB n) (wA n)
def wQ (n : Nat) (sw : Bool) : SE := cond sw (wA n) (wB n)
def sP (n : Nat) (sw : Bool) : SE := cond sw (sB n) (sA n)
def sQ (n : Nat) (sw : Bool) : SE := cond sw (sA n) (sB n)
def d12 : SE := .md (.var 3) 12
def xP (n : Nat) (sw : Bool) : SE := .shl (magE n (wP n sw)) (.lit 10)
def yQ (n : Nat) (sw : Bool) : SE := jamE (.shl (magE n (wQ n sw)) (.lit 10)) d12
/-- qz: is the less one nought? pp: is the greater one not? -/
def addK (n : Nat) (sw op qz : Bool) : List (SE × SE) := [(mkLt (sA n) (sB n), b01 sw), (mkEq (sP n sw) (.lit (.ofNat (infR n))), .lit 0), (mkEq (sQ n sw) (.lit 0), b01 qz),
  (mkNot (mkEqB (negE n (wP n sw)) (negE n (wQ n sw))), b01 op), (mkWrap .i64 (mkSub (plcE n (wP n sw)) (plcE n (wQ n sw))), d12), (mkWrap .i64 (mkSub (plcE n (wP n sw)) (.lit 10)), e13)] ++ cond qz [(mkLt (.lit 0) (sP n sw), .lit 0)] []
theorem add_f : ([32, 64].all fun n => [(false, false), (true, false), (false, true)].all fun k => isUE (runV sumsG (addK n k.1 false k.2) 155 (argsF n)) (sgE n (negE n (wP n k.1)) (rngE n false (.wrap .u64 (.add (xP n k.1) (yQ n k.1))) e13))) = true := by kernel_rfl
def subR (n : Nat) (sw : Bool) : SE := rngE n false (.wrap .u64 (.sub (xP n sw) (yQ n sw))) e13
theorem add_o : ([32, 64].all fun n => [(false, false), (true, false), (false, true)].all fun k => isUE (runV sumsG (addK n k.1 true k.2) 155 (argsF n)) (.ite (negE n (wP n k.1)) (sgE n (.eq (.eq (xP n k.1) (yQ n k.1)) (.lit 0)) (subR n k.1)) (sgE n (.lit 0) (subR n k.1)))) = true := by kernel_rfl
/-- the less one is nought, the greater one is not -/
def addKz (n : Nat) (sw : Bool) : List (SE × SE) := [(mkLt (sA n) (sB n), b01 sw), (mkEq (sP n sw) (.lit (.ofNat (infR n))), .lit 0), (mkEq (sQ n sw) (.lit 0), .lit 1), (mkLt (.lit 0) (sP n sw), .lit 1)]
theorem add_z : ([32, 64].all fun n => [false, true].all fun sw => isUE (runV sumsG (addKz n sw) 155 (argsF n)) (wP n sw)) = true := by kernel_rfl
/-- the greater one is an infinity -/
def addKi (n : Nat) (sw op qi : Bool) : List (SE × SE) := [(mkLt (sA n) (sB n), b01 sw), (mkEq (sP n sw) (.lit (.ofNat (infR n))), .lit 1), (mkNot (mkEqB (negE n (wP n sw)) (negE n (wQ n sw))), b01 op), (mkEq (sQ n sw) (.lit (.ofNat (infR n))), b01 qi)]
theorem add_i : ([32, 64].all fun n => [false, true].all fun sw => [false, true].all fun op => [false, true].all fun qi => isUE (runV sumsG (addKi n sw op qi) 155 (argsF n)) (cond (and op qi) (.lit (.ofNat (nanR n))) (wP n sw))) = true := by kernel_rfl

end Sx
end Go.Proofs.YtfdggebddcoeeaaGreatDoor
end
