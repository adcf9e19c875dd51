/-
  The evaluator, second part: regions, code, calls. Definitions alone.
-/
import Derived.Test.YtfdggebddcoeeaaGreatDoorTyB
set_option linter.unusedVariables false
set_option linter.unusedSimpArgs false
noncomputable section
namespace Go.Proofs.YtfdggebddcoeeaaGreatDoor
namespace Sx
open Go

inductive Ex where
  | normal
  | exit (id : Nat)
  | ret
inductive Out where
  | done (e : Ex) (tm : Tr SV) (hp : Tr SBlk) (nx : Nat)
  | split (c : SE) (t f : Out)
abbrev K := Tr SV → Tr SBlk → Nat → Option Out
def Out.bindN (k : K) : Out → Option Out
  | .done e tm hp nx => match e with
    | .normal => k tm hp nx
    | .exit i => some (.done (.exit i) tm hp nx)
    | .ret => some (.done .ret tm hp nx)
  | .split c t f => match t.bindN k with
    | some t => match f.bindN k with
      | some f => some (.split c t f)
      | none => none
    | none => none
def unExit (id : Nat) (e : Ex) : Ex := match e with
  | .exit i => cond (Nat.beq i id) .normal (.exit i)
  | .normal => .normal
  | .ret => .ret
def Out.mapE (id : Nat) : Out → Out
  | .done e tm hp nx => .done (unExit id e) tm hp nx
  | .split c t f => .split c (t.mapE id) (f.mapE id)
def bindO (o : Option Out) (k : K) : Option Out := match o with
  | some o => o.bindN k
  | none => none

/-! two states put together under a test -/
def capEq (a b : Cap) : Bool := match a with
  | .ex n => match b with
    | .ex m => Nat.beq n m
    | .gr _ => false
  | .gr n => match b with
    | .ex _ => false
    | .gr m => Nat.beq n m
def mgV (c : SE) (a b : SV) : Option SV := match a with
  | .int k x => match b with
    | .int l y => cond (decide (k = l)) (some (.int k (mkIte c x y))) none
    | _ => none
  | .bool x => match b with
    | .bool y => some (.bool (mkIte c x y))
    | _ => none
  | .str x => match b with
    | .str y => cond (eqB x y) (some (.str x)) none
    | _ => none
  | .ptr p o => match b with
    | .ptr q u => cond (Nat.beq p q) (cond (Nat.beq o u) (some (.ptr p o)) none) none
    | _ => none
  | .gptr p o => match b with
    | .gptr q u => cond (Nat.beq p q) (cond (Nat.beq o u) (some (.gptr p o)) none) none
    | _ => none
  | .nils => match b with
    | .nils => some .nils
    | _ => none
  | .sl p o n d => match b with
    | .sl q u m e => cond (Nat.beq p q) (cond (Nat.beq o u) (cond (Nat.beq n m) (cond (capEq d e) (some (.sl p o n d)) none) none) none) none
    | _ => none
  | _ => none
def mgL (c : SE) : List SV → List SV → Option (List SV)
  | [], [] => some []
  | a :: x, b :: y => match mgV c a b with
    | some v => match mgL c x y with
      | some l => some (v :: l)
      | none => none
    | none => none
  | _, _ => none
/-- one level deeper -/
def mgW (c : SE) (a b : SV) : Option SV := match a with
  | .agg x => match b with
    | .agg y => match mgL c x y with
      | some l => some (.agg l)
      | none => none
    | _ => none
  | .tup x => match b with
    | .tup y => match mgL c x y with
      | some l => some (.tup l)
      | none => none
    | _ => none
  | a => mgV c a b
def mgWL (c : SE) : List SV → List SV → Option (List SV)
  | [], [] => some []
  | a :: x, b :: y => match mgW c a b with
    | some v => match mgWL c x y with
      | some l => some (v :: l)
      | none => none
    | none => none
  | _, _ => none
/-- two levels -/
def mgX (c : SE) (a b : SV) : Option SV := match a with
  | .tup x => match b with
    | .tup y => match mgWL c x y with
      | some l => some (.tup l)
      | none => none
    | _ => none
  | a => mgW c a b
def mgOV (c : SE) (a b : Option SV) : Option SV := match a with
  | some a => match b with
    | some b => mgW c a b
    | none => none
  | none => none
def mgB (c : SE) (a b : SBlk) : Option SBlk := match a with
  | ⟨t, x, e, f⟩ => match b with
    | ⟨u, y, g, h⟩ => cond (Nat.beq t u) (cond (e == g) (match mgL c x y with
      | some l => some ⟨t, l, e, or f h⟩
      | none => none) none) none
def mgOB (c : SE) (a b : Option SBlk) : Option SBlk := match a with
  | some a => match b with
    | some b => mgB c a b
    | none => none
  | none => none
def mgT (c : SE) : Tr SV → Tr SV → Tr SV
  | .nd l v r, .nd l' v' r' => .nd (mgT c l l') (mgOV c v v') (mgT c r r')
  | _, _ => .lf
def mgH (c : SE) : Tr SBlk → Tr SBlk → Tr SBlk
  | .nd l v r, .nd l' v' r' => .nd (mgH c l l') (mgOB c v v') (mgH c r r')
  | _, _ => .lf
def maxN (a b : Nat) : Nat := cond (Nat.ble a b) b a
def mgO (c : SE) (a b : Out) : Out := match a with
  | .done e tm hp nx => match e with
    | .normal => match b with
      | .done e' tm' hp' nx' => match e' with
        | .normal => .done .normal (mgT c tm tm') (mgH c hp hp') (maxN nx nx')
        | e' => .split c (.done .normal tm hp nx) (.done e' tm' hp' nx')
      | b => .split c (.done .normal tm hp nx) b
    | e => .split c (.done e tm hp nx) b
  | a => .split c a b
def mgOO (c : SE) (a b : Option Out) : Option Out := match a with
  | some a => match b with
    | some b => some (mgO c a b)
    | none => none
  | none => none

/-! operations in a row -/
abbrev CF := FuncId → List SV → Tr SBlk → Nat → Option (SV × Tr SBlk × Nat)
variable (P : Program) (G : Gl) (cf : CF) (lo : Nat)
def putO (d : Option Tmp) (v : SV) (tm : Tr SV) : Tr SV := match d with
  | some t => tm.set t v
  | none => tm
def silK (d : Option Tmp) (ih : K) (tm : Tr SV) (hp : Tr SBlk) (nx : Nat) (v : Option SV) : Option Out := match v with
  | some v => ih (putO d v tm) hp nx
  | none => none
def alcK (d : Option Tmp) (ih : K) (tm : Tr SV) (hp : Tr SBlk) (nx : Nat) (v : Option AR) : Option Out := match v with
  | some r => match r with
    | ⟨k, f⟩ => ih (putO d (f nx) tm) (hp.set nx k) (nx + 1)
  | none => none
def effK (d : Option Tmp) (ih : K) (tm : Tr SV) (r : Option (SV × Tr SBlk × Nat)) : Option Out := match r with
  | some (v, hp, nx) => ih (putO d v tm) hp nx
  | none => none
def calK (d : Option Tmp) (ih : K) (tm : Tr SV) (hp : Tr SBlk) (nx : Nat) (r : Option (FuncId × List SV)) : Option Out := match r with
  | some (f, args) => effK d ih tm (cf f args hp nx)
  | none => none
def runC (c : Cls) (d : Option Tmp) (ih : K) (tm : Tr SV) (hp : Tr SBlk) (nx : Nat) : Option Out := match c with
  | .sil f => silK d ih tm hp nx (f tm hp)
  | .alc f => alcK d ih tm hp nx (f tm)
  | .wrt f => effK d ih tm (f lo tm hp nx)
  | .cal f => calK cf d ih tm hp nx (f tm)
  | .bad => none
def guardDst (ops : Array Oper) (j : Nat) : Option Tmp := match ops[j]? with
  | some o => o.dst
  | none => none
def runG (ops : Array Oper) (c : Cls) (d : Option Tmp) (ih : K) (j : Nat) (want : Bool) (tm : Tr SV) (hp : Tr SBlk) (nx : Nat) : Option Out := match guardDst ops j with
  | some g => match tm.get g with
    | some v => match v with
      | .bool e => match e with
        | .lit n => cond (xor (int0 n) want) (runC cf lo c d ih tm hp nx) (ih (putO d (.tup []) tm) hp nx)
        | e => cond want
            (mgOO e (runC cf lo c d ih (tm.set g (.bool (.lit 1))) hp nx) (ih (putO d (.tup []) (tm.set g (.bool (.lit 0)))) hp nx))
            (mgOO e (ih (putO d (.tup []) (tm.set g (.bool (.lit 1)))) hp nx) (runC cf lo c d ih (tm.set g (.bool (.lit 0))) hp nx))
      | .tup l => match l with
        | [] => ih (putO d (.tup []) tm) hp nx
        | _ => none
      | _ => none
    | none => none
  | none => none
def runO (ops : Array Oper) (o : Oper) (ih : K) : K := match o.guard with
  | none => runC cf lo (cls P G o.op) o.dst ih
  | some g => match g with
    | (j, want) => runG cf lo ops (cls P G o.op) o.dst ih j want
def runL (ops : Array Oper) : List Oper → K
  | [] => fun tm hp nx => some (.done .normal tm hp nx)
  | o :: l => runO P G cf lo ops o (runL ops l)

/-! a region that draws its order: silent operations and loads first, then whatever may come up -/
def isSil (c : Cls) : Bool := match c with
  | .sil _ => true
  | _ => false
def isWrt (c : Cls) : Bool := match c with
  | .wrt _ => true
  | _ => false
def isLoad (o : Op) : Bool := match o with
  | .load _ _ => true
  | _ => false
inductive Sch where
  | done
  | take (i : Nat) (t : Sch)
  | one (i : Nat) (t : Sch)
  | two (i : Nat) (t : Sch) (j : Nat) (u : Sch)
def opAt (ops : Array Oper) (i : Nat) : Op := match ops[i]? with
  | some o => o.op
  | none => .panic (.func 0)
def depsIn (ops : Array Oper) (acc : List Nat) (j : Nat) : Bool := match ops[j]? with
  | some o => o.after.all fun e => !Region.binds .any e || Nat.ble j e.on || acc.contains e.on
  | none => false
/-- the greatest closed part of 'listed' without number i -/
def kept (ops : Array Oper) (listed : Array Bool) (i : Nat) : List Nat → List Nat → List Nat
  | [], acc => acc
  | j :: l, acc => kept ops listed i l (cond (Nat.beq j i) acc (cond (listed.getD j false) (cond (depsIn ops acc j) (j :: acc) acc) acc))
/-- may all that is no silent operation of 'listed' have come up without number i? -/
def pendB (ops : Array Oper) (listed : Array Bool) (i : Nat) : Bool :=
  let k := kept ops listed i (List.range ops.size) []
  (List.range ops.size).all fun j => !listed.getD j false || isSil (cls P G (opAt ops j)) || k.contains j
def findTake (ops : Array Oper) (listed : Array Bool) : List Nat → Option Nat
  | [] => none
  | i :: l => cond (isSil (cls P G (opAt ops i)) && Region.free .any ops listed i) (some i) (findTake ops listed l)
def mkSch (ops : Array Oper) : Nat → Array Bool → List Nat → Option Sch
  | 0, listed, _ => match Region.ready .any ops listed with
    | [] => some .done
    | _ => none
  | n + 1, listed, pd => match Region.ready .any ops listed with
    | [] => some .done
    | rs => match findTake P G ops listed rs with
      | some i => match mkSch ops n (listed.setIfInBounds i true) (cond (isLoad (opAt ops i)) (i :: pd) pd) with
        | some t => some (.take i t)
        | none => none
      | none => match rs with
        | [i] => match mkSch ops n (listed.setIfInBounds i true) pd with
          | some t => cond (isWrt (cls P G (opAt ops i)) && pd.any (pendB P G ops (listed.setIfInBounds i true))) none (some (.one i t))
          | none => none
        | [i, j] => match mkSch ops n (listed.setIfInBounds i true) pd with
          | some t => match mkSch ops n (listed.setIfInBounds j true) pd with
            | some u => cond (isWrt (cls P G (opAt ops i)) || isWrt (cls P G (opAt ops j))) none (some (.two i t j u))
            | none => none
          | none => none
        | _ => none
def sch (ops : Array Oper) : Option Sch := cond (Region.noSelect ops) (mkSch P G ops ops.size (Array.replicate ops.size false) []) none

/-! equality -/
mutual
def SV.beq : SV → SV → Bool
  | .bool a, .bool b => SE.beq a b
  | .int k a, .int l b => cond (decide (k = l)) (SE.beq a b) false
  | .str a, .str b => eqB a b
  | .ptr a i, .ptr b j => cond (Nat.beq a b) (Nat.beq i j) false
  | .gptr a i, .gptr b j => cond (Nat.beq a b) (Nat.beq i j) false
  | .nilp, .nilp => true
  | .sl a i n c, .sl b j m d => cond (Nat.beq a b) (cond (Nat.beq i j) (cond (Nat.beq n m) (capEq c d) false) false) false
  | .nils, .nils => true
  | .func f a, .func g b => cond (Nat.beq f g) (beqL a b) false
  | .nilf, .nilf => true
  | .agg a, .agg b => beqL a b
  | .tup a, .tup b => beqL a b
  | _, _ => false
def beqL : List SV → List SV → Bool
  | [], [] => true
  | a :: x, b :: y => cond (SV.beq a b) (beqL x y) false
  | _, _ => false
end
def beqOV (a b : Option SV) : Bool := match a with
  | some a => match b with
    | some b => SV.beq a b
    | none => false
  | none => match b with
    | some _ => false
    | none => true
def beqOB (a b : Option SBlk) : Bool := match a with
  | some ⟨t, x, e, f⟩ => match b with
    | some ⟨u, y, g, h⟩ => cond (Nat.beq t u) (cond (beqL x y) (cond (e == g) (f == h) false) false) false
    | none => false
  | none => match b with
    | some _ => false
    | none => true
def beqTV : Tr SV → Tr SV → Bool
  | .lf, .lf => true
  | .nd l v r, .nd l' v' r' => cond (beqOV v v') (cond (beqTV l l') (beqTV r r') false) false
  | _, _ => false
def beqTB : Tr SBlk → Tr SBlk → Bool
  | .lf, .lf => true
  | .nd l v r, .nd l' v' r' => cond (beqOB v v') (cond (beqTB l l') (beqTB r r') false) false
  | _, _ => false
def beqEx (a b : Ex) : Bool := match a with
  | .normal => match b with
    | .normal => true
    | _ => false
  | .ret => match b with
    | .ret => true
    | _ => false
  | .exit i => match b with
    | .exit j => Nat.beq i j
    | _ => false
def Out.beq : Out → Out → Bool
  | .done e tm hp nx, .done e' tm' hp' nx' => cond (beqEx e e') (cond (beqTV tm tm') (cond (beqTB hp hp') (Nat.beq nx nx') false) false) false
  | .split c t f, .split c' t' f' => cond (SE.beq c c') (cond (t.beq t') (f.beq f') false) false
  | _, _ => false
def eqO (a b : Option Out) : Option Out := match a with
  | some a => match b with
    | some b => cond (a.beq b) (some a) (cond ((mgO (.lit 1) a b).beq (mgO (.lit 0) a b)) (some (mgO (.lit 1) a b)) none)
    | none => none
  | none => none
def runI (ops : Array Oper) (i : Nat) (ih : K) : K := match ops[i]? with
  | some o => runO P G cf lo ops o ih
  | none => fun _ _ _ => none
def runS (ops : Array Oper) : Sch → K
  | .done => fun tm hp nx => some (.done .normal tm hp nx)
  | .take i t => runI P G cf lo ops i (runS ops t)
  | .one i t => runI P G cf lo ops i (runS ops t)
  | .two i t j u => fun tm hp nx => eqO (runI P G cf lo ops i (runS ops t) tm hp nx) (runI P G cf lo ops j (runS ops u) tm hp nx)
def runR (ops : Array Oper) (draw : Bool) : K := match draw with
  | false => runL P G cf lo ops ops.toList
  | true => match sch P G ops with
    | some t => runS P G cf lo ops t
    | none => fun _ _ _ => none

/-! code -/
def loopN (body : K) : Nat → K
  | 0 => fun _ _ _ => none
  | n + 1 => fun tm hp nx => bindO (body tm hp nx) (loopN body n)
def findS : List (SE × SE × Nat) → SE → Option (SE × Nat)
  | [], _ => none
  | (x, k, n) :: l, e => cond (SE.beq x e) (some (k, n)) (findS l e)
/-- where a number is known -/
def subV (k : SE) (c : Nat) (v : SV) : SV := match v with
  | .int i e => cond (SE.beq k e) (.int i (.lit (.ofNat c))) (.int i e)
  | v => v
def subO (k : SE) (c : Nat) (v : Option SV) : Option SV := match v with
  | some v => some (subV k c v)
  | none => none
def subT (k : SE) (c : Nat) : Tr SV → Tr SV
  | .lf => .lf
  | .nd l v r => .nd (subT k c l) (subO k c v) (subT k c r)
/-- a way for each number below n -/
def spread (k : SE) (run : Tr SV → Option Out) (tm : Tr SV) : Nat → Option Out
  | 0 => none
  | m + 1 => match m with
    | 0 => run (subT k 0 tm)
    | j + 1 => mgOO (mkEq k (.lit (.ofNat (j + 1)))) (run (subT k (j + 1) tm)) (spread k run tm m)
def condO (x : Option SV) (a : Tr SV → Option Out) (tm : Tr SV) (b : Option Out) : Option Out := match x with
  | some v => match v with
    | .bool e => match e with
      | .lit n => cond (int0 n) b (a tm)
      | e => match findS G.spl e with
        | some (k, n) => mgOO e (spread k a tm n) b
        | none => mgOO e (a tm) b
    | _ => none
  | none => none
def blockO (id : Nat) (o : Option Out) : Option Out := match o with
  | some o => some (o.mapE id)
  | none => none
def rounds : Nat := 3000
def exec : Code → K
  | .skip => fun tm hp nx => some (.done .normal tm hp nx)
  | .region _ ops draw => runR P G cf lo ops draw
  | .seq a b => fun tm hp nx => bindO (exec a tm hp nx) (exec b)
  | .cond x a b => fun tm hp nx => condO G (opv tm x) (fun tm => exec a tm hp nx) tm (exec b tm hp nx)
  | .block id a => fun tm hp nx => blockO id (exec a tm hp nx)
  | .loop a => loopN (exec a) rounds
  | .exit id => fun tm hp nx => some (.done (.exit id) tm hp nx)
  | .ret => fun tm hp nx => some (.done .ret tm hp nx)
  | _ => fun _ _ _ => none
def tmOf : List SV → Nat → Tr SV → Tr SV
  | [], _, t => t
  | v :: l, i, t => tmOf l (i + 1) (t.set i v)
def resV (tm : Tr SV) (hp : Tr SBlk) (r : ResultVar) : Option SV := match r with
  | .tmp t => tm.get t
  | .cell a t => match tm.get a with
    | some a => loadS P G hp t a
    | none => none
def resL (tm : Tr SV) (hp : Tr SBlk) : List ResultVar → Option (List SV)
  | [] => some []
  | r :: l => match resV P G tm hp r with
    | some v => match resL tm hp l with
      | some vs => some (v :: vs)
      | none => none
    | none => none
def resR (tm : Tr SV) (hp : Tr SBlk) (rs : List ResultVar) : Option SV := match resL P G tm hp rs with
  | some vs => match vs with
    | [v] => some v
    | vs => some (.tup vs)
  | none => none
def finR (hp : Tr SBlk) (nx : Nat) (v : Option SV) : Option (SV × Tr SBlk × Nat) := match v with
  | some v => some (v, hp, nx)
  | none => none
def mgR (c : SE) (a b : Option (SV × Tr SBlk × Nat)) : Option (SV × Tr SBlk × Nat) := match a with
  | some (v, h, n) => match b with
    | some (v', h', n') => match mgX c v v' with
      | some u => some (u, mgH c h h', maxN n n')
      | none => none
    | none => none
  | none => none
def finO (rs : List ResultVar) : Out → Option (SV × Tr SBlk × Nat)
  | .done e tm hp nx => match e with
    | .exit _ => none
    | .normal => finR hp nx (resR P G tm hp rs)
    | .ret => finR hp nx (resR P G tm hp rs)
  | .split c t f => mgR c (finO rs t) (finO rs f)
/-- no address in it -/
def flat0 (v : SV) : Bool := match v with
  | .bool _ => true
  | .int _ _ => true
  | .str _ => true
  | .nilp => true
  | .nils => true
  | .nilf => true
  | _ => false
def flatL : List SV → Bool
  | [] => true
  | v :: l => cond (flat0 v) (flatL l) false
def flat1 (v : SV) : Bool := match v with
  | .agg l => flatL l
  | v => flat0 v
def flat1L : List SV → Bool
  | [] => true
  | v :: l => cond (flat1 v) (flat1L l) false
def flat (v : SV) : Bool := match v with
  | .tup l => flat1L l
  | v => flat1 v
/-- the blocks that results lead to, brought into the caller's heap -/
def bring (h : Tr SBlk) : List SV → Tr SBlk → Option (Tr SBlk)
  | [], hp => some hp
  | v :: l, hp => match v with
    | .sl b _ _ _ => cond (Nat.ble lo b) (match h.get b with
      | some k => cond (flatL k.cells) (bring h l (hp.set b k)) none
      | none => none) (bring h l hp)
    | v => cond (flat1 v) (bring h l hp) none
def resCells (v : SV) : List SV := match v with
  | .tup l => l
  | v => [v]
def leave (hp : Tr SBlk) (r : Option (SV × Tr SBlk × Nat)) : Option (SV × Tr SBlk × Nat) := match r with
  | some (v, h, n) => cond (flat v) (some (v, hp, lo)) (match bring lo h (resCells v) hp with
    | some h' => some (v, h', n)
    | none => some (v, h, n))
  | none => none
/-! arguments without addresses, written out anew: the kernel knows such a call again -/
abbrev R := Option (SV × Tr SBlk × Nat)
def normN (n : Nat) (k : Nat → R) : R := match n with
  | 0 => k 0
  | n + 1 => k (n + 1)
def normK (i : IntKind) (k : IntKind → R) : R := match i with
  | .i8 => k .i8
  | .i16 => k .i16
  | .i32 => k .i32
  | .i64 => k .i64
  | .u8 => k .u8
  | .u16 => k .u16
  | .u32 => k .u32
  | .u64 => k .u64
def normO (i : BinOp) (k : BinOp → R) : R := match i with
  | .and => k .and
  | .or => k .or
  | .xor => k .xor
  | .andNot => k .andNot
  | o => k o
def normE : SE → (SE → R) → R
  | .lit x, k => match x with
    | .ofNat n => normN n fun n => k (.lit (.ofNat n))
    | .negSucc n => normN n fun n => k (.lit (.negSucc n))
  | .var i, k => normN i fun i => k (.var i)
  | .add a b, k => normE a fun a => normE b fun b => k (.add a b)
  | .sub a b, k => normE a fun a => normE b fun b => k (.sub a b)
  | .mul a b, k => normE a fun a => normE b fun b => k (.mul a b)
  | .tdiv a b, k => normE a fun a => normE b fun b => k (.tdiv a b)
  | .tmod a b, k => normE a fun a => normE b fun b => k (.tmod a b)
  | .shr a b, k => normE a fun a => normE b fun b => k (.shr a b)
  | .shl a b, k => normE a fun a => normE b fun b => k (.shl a b)
  | .md a b, k => normE a fun a => normN b fun b => k (.md a b)
  | .wrap i a, k => normK i fun i => normE a fun a => k (.wrap i a)
  | .bit o i a b, k => normO o fun o => normK i fun i => normE a fun a => normE b fun b => k (.bit o i a b)
  | .cat x b r, k => normE x fun x => normN b fun b => normE r fun r => k (.cat x b r)
  | .lt a b, k => normE a fun a => normE b fun b => k (.lt a b)
  | .eq a b, k => normE a fun a => normE b fun b => k (.eq a b)
  | .ite c a b, k => normE c fun c => normE a fun a => normE b fun b => k (.ite c a b)
  | .f1 c a, k => normN c fun c => normE a fun a => k (.f1 c a)
  | .f2 c a b, k => normN c fun c => normE a fun a => normE b fun b => k (.f2 c a b)
def normB : List UInt8 → (List UInt8 → R) → R
  | [], k => k []
  | c :: l, k => normB l fun l => k (c :: l)
def normV (v : SV) (k : SV → R) : R := match v with
  | .bool e => normE e fun e => k (.bool e)
  | .int i e => normK i fun i => normE e fun e => k (.int i e)
  | .str s => normB s fun s => k (.str s)
  | v => k v
def normL : List SV → (List SV → R) → R
  | [], k => k []
  | v :: l, k => normV v fun v => normL l fun l => k (v :: l)
def normW (v : SV) (k : SV → R) : R := match v with
  | .agg l => normL l fun l => k (.agg l)
  | v => normV v k
def normA : List SV → (List SV → R) → R
  | [], k => k []
  | v :: l, k => normW v fun v => normA l fun l => k (v :: l)
/-- results of a call in an empty heap, brought into a heap -/
def shiftV (nx : Nat) (v : SV) : SV := match v with
  | .sl b o n c => .sl (Nat.add nx b) o n c
  | v => v
def shiftL (nx : Nat) : List SV → List SV
  | [] => []
  | v :: l => shiftV nx v :: shiftL nx l
def bringE (nx : Nat) (h : Tr SBlk) : List SV → Tr SBlk → Option (Tr SBlk)
  | [], hp => some hp
  | v :: l, hp => match v with
    | .sl b _ _ _ => match h.get b with
      | some k => cond (flatL k.cells) (bringE nx h l (hp.set (Nat.add nx b) k)) none
      | none => none
    | v => cond (flat1 v) (bringE nx h l hp) none
def reloc (hp : Tr SBlk) (nx : Nat) (r : R) : R := match r with
  | some (v, h, n) => cond (flat v) (some (v, hp, nx)) (match v with
    | .sl b o m c => match bringE nx h [.sl b o m c] hp with
      | some hp => some (.sl (Nat.add nx b) o m c, hp, Nat.add nx n)
      | none => none
    | .tup l => match bringE nx h l hp with
      | some hp => some (.tup (shiftL nx l), hp, Nat.add nx n)
      | none => none
    | _ => none)
  | none => none
abbrev Sm := List SV → Tr SBlk → Nat → Option (SV × Tr SBlk × Nat)
variable (sums : Tr Sm)
def callH (cf : CF) (fn : Option Func) (args : List SV) (hp : Tr SBlk) (nx : Nat) : Option (SV × Tr SBlk × Nat) := match fn with
  | some fn => match fn.body with
    | some c => match exec P G cf nx c (tmOf args 0 .lf) hp nx with
      | some o => leave nx hp (finO P G fn.results.toList o)
      | none => none
    | none => none
  | none => none
def callB (cf : CF) (fn : Option Func) (args : List SV) (hp : Tr SBlk) (nx : Nat) : R :=
  cond (flat1L args) (normA args fun args => reloc hp nx (callH P G cf fn args .lf 0)) (callH P G cf fn args hp nx)
def callS (s : Option Sm) (cf : CF) (fn : Option Func) (args : List SV) (hp : Tr SBlk) (nx : Nat) : Option (SV × Tr SBlk × Nat) := match s with
  | some s => match s args hp nx with
    | some r => some r
    | none => callB P G cf fn args hp nx
  | none => callB P G cf fn args hp nx
def call : Nat → CF
  | 0 => fun _ _ _ _ => none
  | n + 1 => fun f args hp nx => callS P G (sums.get f) (call n) P.funcs[f]? args hp nx

end Sx
end Go.Proofs.YtfdggebddcoeeaaGreatDoor
end
