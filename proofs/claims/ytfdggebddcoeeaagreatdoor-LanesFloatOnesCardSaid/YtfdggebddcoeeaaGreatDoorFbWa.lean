/-
  The program's whole numbers near a float: what the evaluator finds.
-/
import Derived.Test.YtfdggebddcoeeaaGreatDoorFbMu
set_option linter.unusedVariables false
set_option linter.unusedSimpArgs false
set_option maxRecDepth 100000
noncomputable section
namespace Go.Proofs.YtfdggebddcoeeaaGreatDoor
namespace Sx
open Go Go.RowKit

def argsW (n op : Nat) : List SV := [fmtV n, numL op, .int .u64 (wA n)]
def wd12 : SE := .md (.var 3) 12
def byE : SE := .md (.var 4) 6
def p2E : SE := .md (.var 5) 64
def mkE : SE := .md (.var 6) 64
def rsE : SE := .md (.var 7) 64
def b1E : SE := .md (.var 8) 6
def hfE : SE := .md (.var 9) 64
def qtE : SE := .md (.var 10) 53
def q1E : SE := .md (.var 11) 64
/-- not infinite, below a whole number's place, not nought -/
def whK (n : Nat) (ng : Bool) : List (SE × SE) := [(mkNot (mkLt (sA n) (.lit (.ofNat (infR n)))), .lit 0), (mkNot (mkLt (plcE n (wA n)) (.lit 0)), .lit 0), (mkEq (magE n (wA n)) (.lit 0), .lit 0),
  (mkWrap .i64 (mkSub (.lit 0) (plcE n (wA n))), wd12), (mkIte (mkLt (.lit 63) wd12) (.lit 63) wd12, byE), (.wrap .u64 (.shl (.lit 1) (amt .u64 byE)), p2E), (mkWrap .u64 (mkSub p2E (.lit 1)), mkE), (mkAnd .u64 (magE n (wA n)) mkE, rsE),
  (mkWrap .i64 (mkSub byE (.lit 1)), b1E), (.wrap .u64 (.shl (.lit 1) (amt .u64 b1E)), hfE), (.shr (magE n (wA n)) (amt .u64 byE), qtE), (mkWrap .u64 (mkAdd qtE (.lit 1)), q1E), (negE n (wA n), b01 ng)]
def whR (n : Nat) (ng up : Bool) : SE := sgE n (b01 ng) (rngE n false (cond up q1E qtE) (.lit 0))
def t1K (t : Bool) : List (SE × SE) := [(mkLt (.lit 0) rsE, b01 t)]
def t3K (t2 t3 t4 : Bool) : List (SE × SE) := [(mkLt hfE rsE, b01 t2), (mkEq rsE hfE, b01 t3), (mkEq (mkMd qtE 1) (.lit 1), b01 t4)]
theorem wh4 : ([32, 64].all fun n => [false, true].all fun ng => [false, true].all fun t => isUE (runV sumsG (whK n ng ++ t1K t) 146 (argsW n 4)) (whR n ng (and t (!ng)))) = true := by kernel_rfl
theorem wh5 : ([32, 64].all fun n => [false, true].all fun ng => [false, true].all fun t => isUE (runV sumsG (whK n ng ++ t1K t) 146 (argsW n 5)) (whR n ng (and t ng))) = true := by kernel_rfl
theorem wh6 : ([32, 64].all fun n => [false, true].all fun ng => isUE (runV sumsG (whK n ng) 146 (argsW n 6)) (whR n ng false)) = true := by kernel_rfl
theorem wh7 : ([32, 64].all fun n => [false, true].all fun ng => [false, true].all fun t2 => [false, true].all fun t3 => [false, true].all fun t4 => isUE (runV sumsG (whK n ng ++ t3K t2 t3 t4) 146 (argsW n 7)) (whR n ng (or t2 (and t3 t4)))) = true := by kernel_rfl
theorem whI : ([32, 64].all fun n => [4, 5, 6, 7].all fun op => isUE (runV sumsG [(mkNot (mkLt (sA n) (.lit (.ofNat (infR n)))), .lit 1)] 146 (argsW n op)) (wA n)) = true := by kernel_rfl
theorem whP : ([32, 64].all fun n => [4, 5, 6, 7].all fun op => isUE (runV sumsG [(mkNot (mkLt (sA n) (.lit (.ofNat (infR n)))), .lit 0), (mkNot (mkLt (plcE n (wA n)) (.lit 0)), .lit 1)] 146 (argsW n op)) (wA n)) = true := by kernel_rfl
theorem whZ : ([32, 64].all fun n => [4, 5, 6, 7].all fun op => isUE (runV sumsG [(mkNot (mkLt (sA n) (.lit (.ofNat (infR n)))), .lit 0), (mkNot (mkLt (plcE n (wA n)) (.lit 0)), .lit 0), (mkEq (magE n (wA n)) (.lit 0), .lit 1)] 146 (argsW n op)) (wA n)) = true := by kernel_rfl

end Sx
end Go.Proofs.YtfdggebddcoeeaaGreatDoor
end
