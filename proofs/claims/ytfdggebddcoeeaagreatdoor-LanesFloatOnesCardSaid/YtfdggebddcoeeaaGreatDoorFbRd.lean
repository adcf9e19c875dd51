/-
  The program's rounding: the rung nearest to m 2^e, and perhaps a little more.
-/
import Derived.Test.YtfdggebddcoeeaaGreatDoorFbPart2
import Derived.Test.YtfdggebddcoeeaaGreatDoorFbPart3
import Derived.Test.YtfdggebddcoeeaaGreatDoorFbPart4
set_option linter.unusedVariables false
set_option linter.unusedSimpArgs false
set_option maxRecDepth 100000
noncomputable section
namespace Go.Proofs.YtfdggebddcoeeaaGreatDoor
namespace Sx
open Go Go.RowKit

/-! names -/
def fb (n : Nat) : Nat := cond (Nat.beq n 32) 23 52
def lst (n : Nat) : Int := cond (Nat.beq n 32) (-149) (-1074)
def eb (n : Nat) : Nat := cond (Nat.beq n 32) 8 11
def infR (n : Nat) : Nat := cond (Nat.beq n 32) 2139095040 9218868437227405312
def fmtV (n : Nat) : SV := .agg [numL (fb n), numL (eb n)]
def lenE (a : SE) : SE := .f1 70007 a
def mE : SE := .md (.var 1) 64
def eE : SE := .var 2
def dE : SE := .var 3
def kE : SE := .md (.var 5) 64
def b01 (b : Bool) : SE := .lit (cond b 1 0)
def rk0 (n : Nat) : List (SE × SE) :=
  let a := mkWrap .i64 (mkSub (mkWrap .i64 (mkSub (mkWrap .i64 (mkAdd (lenE mE) eE)) (.lit 1))) (.lit (.ofNat (fb n))))
  [(mkIte (mkLt eE (.lit (-5000))) (.lit (-5000)) eE, eE), (mkIte (mkLt (.lit 5000) eE) (.lit 5000) eE, eE), (mkWrap .i64 (mkSub (mkIte (mkLt a (.lit (lst n))) (.lit (lst n)) a) eE), dE), (mkEq mE (.lit 0), .lit 0)]
def shU (b : SE) : SE := .wrap .u64 (.shl mE (amt .u64 (mkWrap .u64 b)))
def rkX (n : Nat) (k : SE) (big over : Bool) : List (SE × SE) :=
  let x := cond big (.var 6) (.lit 0)
  let s := mkWrap .u64 (mkAdd (mkWrap .u64 (mkShl (mkWrap .u64 x) (fb n))) k)
  [(mkNot (mkLt k (.lit (.ofNat (2 ^ fb n)))), b01 big), (mkWrap .i64 (mkSub (mkWrap .i64 (mkAdd eE dE)) (.lit (lst n))), .var 6), (mkNot (mkLt x (.lit (.ofNat (2 ^ eb n)))), b01 over),
   (s, .md (.var 9) 64), (mkIte (mkLt (.lit (.ofNat (infR n))) (.md (.var 9) 64)) (.lit (.ofNat (infR n))) (.md (.var 9) 64), .md (.var 10) (n - 1))]
def rkA (n : Nat) (big over : Bool) : List (SE × SE) := rk0 n ++ [(mkNot (mkLt (.lit 0) dE), .lit 1), (shU (mkWrap .i64 (mkSub (.lit 0) dE)), kE)] ++ rkX n kE big over
def rkB (n : Nat) (t1 t2 t3 up : Bool) (big over : Bool) : List (SE × SE) :=
  let m1 : SE := cond up (.md (.var 8) 64) kE
  rk0 n ++ [(mkNot (mkLt (.lit 0) dE), .lit 0), (mkLt (.lit 64) dE, .lit 0), (shU (mkWrap .i64 (mkSub (.lit 64) dE)), .md (.var 7) 64), (.shr (mkShr mE 1) (amt .u64 (mkWrap .u64 (mkWrap .i64 (mkSub dE (.lit 1))))), m1),
    (mkLt (.lit (.ofNat (2 ^ 63))) (.md (.var 7) 64), b01 t1), (mkEq (.md (.var 7) 64) (.lit (.ofNat (2 ^ 63))), b01 t2), (mkEq (mkMd m1 1) (.lit 1), b01 t3)] ++ cond up [(mkWrap .u64 (mkAdd m1 (.lit 1)), kE)] [] ++ rkX n kE big over
def rkC (n : Nat) : List (SE × SE) := rk0 n ++ [(mkNot (mkLt (.lit 0) dE), .lit 0), (mkLt (.lit 64) dE, .lit 1)]
/-- the sign before a rung -/
def sgnE (n : Nat) (over : Bool) : SE := cond over (.ite (.var 0) (.lit (.ofNat (infR n + 2 ^ (n - 1)))) (.lit (.ofNat (infR n)))) (.ite (.var 0) (.bit .or .u64 (.md (.var 10) (n - 1)) (.lit (.ofNat (2 ^ (n - 1))))) (.md (.var 10) (n - 1)))
def rdArgs (n : Nat) (more : Bool) : List SV := [fmtV n, .bool (.var 0), .int .u64 mE, .int .i64 eE, .bool (b01 more)]
/-- Len64 by its name -/
def smLen : Sm := fun a hp nx => match a with
  | [.int .u64 a] => some (.int .i64 (lenE a), hp, nx)
  | _ => none
def sumsR : Tr Sm := sums0.set 148 smLen
def isUE (r : R) (e : SE) : Bool := match r with
  | some (v, _, _) => match v with
    | .int k x => cond (decide (k = .u64)) (SE.beq x e) false
    | _ => false
  | none => false
def rdRun (n : Nat) (ks : List (SE × SE)) (more : Bool) : R := runV sumsR ks 201 (rdArgs n more)
theorem rdA : (([32, 64].all fun n => [(false, false), (true, false), (true, true)].all fun p => [false, true].all fun more => isUE (rdRun n (rkA n p.1 p.2) more) (sgnE n p.2))) = true := by kernel_rfl
theorem rdB : (([32, 64].all fun n => [(false, false), (true, false), (true, true)].all fun p => [(true, false, false, false), (true, false, true, false), (true, false, false, true), (true, false, true, true), (false, false, false, false), (false, false, true, false), (false, false, false, true), (false, false, true, true), (false, true, true, false), (false, true, false, false), (false, true, false, true), (false, true, true, true)].all fun t =>
    isUE (rdRun n (rkB n t.1 t.2.1 t.2.2.1 (t.1 || (t.2.1 && (t.2.2.2 || t.2.2.1))) p.1 p.2) t.2.2.2) (sgnE n p.2))) = true := by kernel_rfl
theorem rdC : (([32, 64].all fun n => [false, true].all fun more => isUE (rdRun n (rkC n) more) (.ite (.var 0) (.lit (.ofNat (2 ^ (n - 1)))) (.lit 0)))) = true := by kernel_rfl
theorem rd0 : (([32, 64].all fun n => [false, true].all fun more => isUE (rdRun n [(mkEq mE (.lit 0), .lit 1)] more) (.ite (.var 0) (.lit (.ofNat (2 ^ (n - 1)))) (.lit 0)))) = true := by kernel_rfl

end Sx
end Go.Proofs.YtfdggebddcoeeaaGreatDoor
end
