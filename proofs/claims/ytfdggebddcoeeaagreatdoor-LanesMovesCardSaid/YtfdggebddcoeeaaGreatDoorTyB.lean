/-
  Symbolic values, a symbolic heap, and the evaluator: what the model's code does to them. Definitions alone.
-/
import Derived.Test.YtfdggebddcoeeaaGreatDoorTyA
set_option linter.unusedVariables false
set_option linter.unusedSimpArgs false
noncomputable section
namespace Go.Proofs.YtfdggebddcoeeaaGreatDoor
namespace Sx
open Go

inductive Cap where
  | ex (n : Nat)
  | gr (d : Nat)
inductive SV where
  | bool (e : SE)
  | int (k : IntKind) (e : SE)
  | str (s : List UInt8)
  | ptr (b off : Nat)
  | gptr (g off : Nat)
  | nilp
  | sl (b off len : Nat) (c : Cap)
  | nils
  | func (f : FuncId) (caps : List SV)
  | nilf
  | agg (cs : List SV)
  | tup (vs : List SV)

/-! maps from numbers, as trees -/
inductive Tr (α : Type) where
  | lf : Tr α
  | nd (l : Tr α) (v : Option α) (r : Tr α)
variable {α : Type}
def Tr.get (t : Tr α) : Nat → Option α :=
  Tr.rec (motive := fun _ => Nat → Option α) (fun _ => none)
    (fun _ v _ l r k => Nat.rec (motive := fun _ => Option α) v (fun j _ => Bool.rec (motive := fun _ => Option α) (r (Nat.div j 2)) (l (Nat.div j 2)) (Nat.beq (Nat.mod j 2) 0)) k) t
/-- a tree of one (n: a bound) -/
def Tr.sing (n : Nat) : Nat → Option α → Tr α :=
  Nat.rec (motive := fun _ => Nat → Option α → Tr α) (fun _ _ => .lf)
    (fun _ ih k o => Nat.rec (motive := fun _ => Tr α) (.nd .lf o .lf) (fun j _ => Bool.rec (motive := fun _ => Tr α) (.nd .lf none (ih (Nat.div j 2) o)) (.nd (ih (Nat.div j 2) o) none .lf) (Nat.beq (Nat.mod j 2) 0)) k) n
def Tr.upd (t : Tr α) : Nat → Option α → Tr α :=
  Tr.rec (motive := fun _ => Nat → Option α → Tr α) (fun k o => Tr.sing 40 k o)
    (fun l v r ihl ihr k o => Nat.rec (motive := fun _ => Tr α) (.nd l o r) (fun j _ => Bool.rec (motive := fun _ => Tr α) (.nd l v (ihr (Nat.div j 2) o)) (.nd (ihl (Nat.div j 2) o) v r) (Nat.beq (Nat.mod j 2) 0)) k) t
def Tr.set (t : Tr α) (k : Nat) (v : α) : Tr α := t.upd k (some v)
def Tr.del (t : Tr α) (k : Nat) : Tr α := t.upd k none

/-- a block: its elements' type, its first cells; are these all? may some of it be frozen? -/
structure SBlk where
  ty : TypeId
  cells : List SV
  ex : Bool
  fr : Bool

/-! constants, operands -/
def ofVal : Value → Option SV
  | .bool b => some (.bool (.lit (cond b 1 0)))
  | .int k n => cond (intLt n k.min) none (cond (intLt k.max n) none (some (.int k (.lit n))))
  | .string s => some (.str s.data.toList)
  | .slice a n c => match a with
    | none => cond (Nat.beq n 0) (cond (Nat.beq c 0) (some .nils) none) none
    | some _ => none
  | .pointer a => match a with
    | none => some .nilp
    | some _ => none
  | .nilFunc => some .nilf
  | _ => none
def opv (tm : Tr SV) (x : Operand) : Option SV := match x with
  | .tmp t => tm.get t
  | .const v => ofVal v
  | .global g => some (.gptr g 0)
  | .func f => some (.func f [])
def opsv (tm : Tr SV) : List Operand → Option (List SV)
  | [] => some []
  | x :: l => match opv tm x with
    | some v => match opsv tm l with
      | some vs => some (v :: vs)
      | none => none
    | none => none
/-- a number of its own -/
def litN (v : SV) : Option Nat := match v with
  | .int _ e => match e with
    | .lit n => match n with
      | .ofNat n => some n
      | .negSucc _ => none
    | _ => none
  | _ => none
def opN (tm : Tr SV) (x : Operand) : Option Nat := match opv tm x with
  | some v => litN v
  | none => none
def many : Nat := 1048576
def cellsOf (v : SV) : List SV := match v with
  | .agg cs => cs
  | v => [v]

/-! operations on numbers and texts -/
def quoI (k : IntKind) (a b : SE) : Option SV := match b with
  | .lit y => cond (int0 y) none (match a with
    | .lit x => some (.int k (.lit (k.wrap (x.tdiv y))))
    | a => match k with
      | .u64 => match y with
        | .ofNat n => match lg n with
          | some j => some (.int .u64 (mkShr a j))
          | none => some (.int .u64 (mkWrap .u64 (.tdiv a (.lit (.ofNat n)))))
        | .negSucc _ => none
      | k => some (.int k (mkWrap k (.tdiv a (.lit y)))))
  | _ => none
def remI (k : IntKind) (a b : SE) : Option SV := match b with
  | .lit y => cond (int0 y) none (match a with
    | .lit x => some (.int k (.lit (x.tmod y)))
    | a => match k with
      | .u64 => match y with
        | .ofNat n => match lg n with
          | some j => some (.int .u64 (mkMd a j))
          | none => some (.int .u64 (.tmod a (.lit (.ofNat n))))
        | .negSucc _ => none
      | k => some (.int k (.tmod a (.lit y))))
  | _ => none
def amt (k : IntKind) (b : SE) : SE := mkIte (mkLt b (.lit (.ofNat k.bits))) b (.lit (.ofNat k.bits))
def shlI (k : IntKind) (a : SE) (l : IntKind) (b : SE) : Option SV := match b with
  | .lit y => match y with
    | .ofNat n => some (.int k (mkWrap k (mkShl a (cond (Nat.ble n k.bits) n k.bits))))
    | .negSucc _ => none
  | b => cond l.signed none (some (.int k (.wrap k (.shl a (amt k b)))))
def shrI (k : IntKind) (a : SE) (l : IntKind) (b : SE) : Option SV := match b with
  | .lit y => match y with
    | .ofNat n => some (.int k (mkShr a (cond (Nat.ble n k.bits) n k.bits)))
    | .negSucc _ => none
  | b => cond l.signed none (some (.int k (.shr a (amt k b))))
def binI (o : BinOp) (k : IntKind) (a b : SE) : Option SV := match o with
  | .add => some (.int k (mkWrap k (mkAdd a b)))
  | .sub => some (.int k (mkWrap k (mkSub a b)))
  | .mul => some (.int k (mkWrap k (mkMul a b)))
  | .quo => quoI k a b
  | .rem => remI k a b
  | .and => some (.int k (mkAnd k a b))
  | .or => some (.int k (mkOr k a b))
  | .xor => some (.int k (mkBit .xor k a b))
  | .andNot => some (.int k (mkBit .andNot k a b))
  | .eql => some (.bool (mkEq a b))
  | .neq => some (.bool (mkNot (mkEq a b)))
  | .lss => some (.bool (mkLt a b))
  | .leq => some (.bool (mkNot (mkLt b a)))
  | .gtr => some (.bool (mkLt b a))
  | .geq => some (.bool (mkNot (mkLt a b)))
  | _ => none
def eqB : List UInt8 → List UInt8 → Bool
  | [], [] => true
  | a :: x, b :: y => cond (Nat.beq a.toNat b.toNat) (eqB x y) false
  | _, _ => false
def litB (b : Bool) : SV := .bool (.lit (cond b 1 0))
def binT (o : BinOp) (a b : List UInt8) : Option SV := match o with
  | .add => cond (Nat.ble (Nat.add a.length b.length) many) (some (.str (a ++ b))) none
  | .eql => some (litB (eqB a b))
  | .neq => some (litB (not (eqB a b)))
  | _ => none
def eqCells : List SV → List SV → Option SE
  | [], [] => some (.lit 1)
  | .int _ a :: x, .int _ b :: y => match eqCells x y with
    | some e => some (mkIte (mkEq a b) e (.lit 0))
    | none => none
  | .bool a :: x, .bool b :: y => match eqCells x y with
    | some e => some (mkIte (mkEqB a b) e (.lit 0))
    | none => none
  | _, _ => none
def cellKind : SV → Nat
  | .int k _ => match k with
    | .i8 => 1 | .i16 => 2 | .i32 => 3 | .i64 => 4 | .u8 => 5 | .u16 => 6 | .u32 => 7 | .u64 => 8
  | .bool _ => 9
  | _ => 0

/-- what is known from the start: the package-level variables; what some expressions are -/
structure Gl where
  tab : Nat → Tr SV
  keys : List (SE × SE)
  /-- tests behind which a number is one of so many -/
  spl : List (SE × SE × Nat)
def keyE : List (SE × SE) → SE → SE
  | [], e => e
  | (x, y) :: l, e => cond (SE.beq x e) y (keyE l e)
variable (P : Program) (G : Gl)
/-- an operation's result, if it is known -/
def keyV (v : SV) : SV := match v with
  | .int k e => .int k (keyE G.keys e)
  | .bool e => .bool (keyE G.keys e)
  | v => v
def keyO (v : Option SV) : Option SV := match v with
  | some v => some (keyV G v)
  | none => none
def descKind (t : TypeId) : Nat := match P.underlying t with
  | some (.int k) => match k with
    | .i8 => 1 | .i16 => 2 | .i32 => 3 | .i64 => 4 | .u8 => 5 | .u16 => 6 | .u32 => 7 | .u64 => 8
  | some .bool => 9
  | _ => 0
/-- a struct's fields are numbers and bools, each a cell, one behind the other, none a blank one -/
def flatFields : Nat → List Field → List SV → List SV → Bool
  | _, [], [], [] => true
  | i, f :: fs, a :: x, b :: y => cond (Nat.beq f.offset i) (cond (decide (f.name = "_")) false (cond (Nat.beq (descKind P f.type) (cellKind a)) (cond (Nat.beq (descKind P f.type) (cellKind b)) (cond (Nat.beq (cellKind a) 0) false (flatFields (i + 1) fs x y)) false) false)) false
  | _, _, _, _ => false
def eqAgg (t : TypeId) (a b : List SV) : Option SE := match P.underlying t with
  | some (.struct fs) => cond (flatFields P 0 fs.toList a b) (cond (P.stoodInHeld t) none (cond (P.eqGuardType P.depth t) none (eqCells a b))) none
  | _ => none
def binS (o : BinOp) (t : TypeId) (x y : SV) : Option SV := match x with
  | .int k a => match y with
    | .int l b => match o with
      | .shl => shlI k a l b
      | .shr => shrI k a l b
      | o => cond (decide (k = l)) (binI o k a b) none
    | _ => none
  | .str a => match y with
    | .str b => binT o a b
    | _ => none
  | .bool a => match y with
    | .bool b => cond (Nat.beq (descKind P t) 9) (match o with
      | .eql => some (.bool (mkEqB a b))
      | .neq => some (.bool (mkNot (mkEqB a b)))
      | _ => none) none
    | _ => none
  | .agg a => match y with
    | .agg b => match eqAgg P t a b with
      | some e => match o with
        | .eql => some (.bool e)
        | .neq => some (.bool (mkNot e))
        | _ => none
      | none => none
    | _ => none
  | _ => none
def szOf (t : TypeId) : Nat := match P.info? t with
  | some i => i.size
  | none => 0
def isAggT (t : TypeId) : Bool := match P.underlying t with
  | some (.struct _) => true
  | some (.array _ _) => true
  | _ => false
/-- a type that the program has -/
def knownT (t : TypeId) : Bool := (P.underlying t).isSome
def ofVals : List Value → Option (List SV)
  | [] => some []
  | v :: l => match ofVal v with
    | some v => match ofVals l with
      | some vs => some (v :: vs)
      | none => none
    | none => none
def zeroOf (t : TypeId) : Option SV := match P.info? t with
  | some i => match i.zero with
    | some z => match z with
      | .agg cs => match ofVals cs.toList with
        | some l => some (.agg l)
        | none => none
      | z => ofVal z
    | none => none
  | none => none
def partS (t : TypeId) (cs : List SV) (off : Nat) : Option SV :=
  cond (isAggT P t) (cond (Nat.ble (Nat.add off (szOf P t)) cs.length) (some (.agg ((cs.drop off).take (szOf P t)))) none) (cond (knownT P t) cs[off]? none)
def globs (g : Nat) : Nat → Nat → Option (List SV)
  | 0, _ => some []
  | n + 1, off => match (G.tab g).get off with
    | some v => match globs g n (off + 1) with
      | some l => some (v :: l)
      | none => none
    | none => none
def loadN (hp : Tr SBlk) (a : SV) (n : Nat) : Option (List SV) := match a with
  | .ptr b off => match hp.get b with
    | some k => cond (Nat.ble (Nat.add off n) k.cells.length) (some ((k.cells.drop off).take n)) none
    | none => none
  | .gptr g off => globs G g n off
  | _ => none
def loadS (hp : Tr SBlk) (t : TypeId) (a : SV) : Option SV :=
  cond (isAggT P t) (match loadN G hp a (szOf P t) with
    | some l => some (.agg l)
    | none => none) (cond (knownT P t) (match loadN G hp a 1 with
    | some l => match l with
      | [v] => some v
      | _ => none
    | none => none) none)
def setL : List SV → Nat → List SV → List SV
  | l, 0, vs => vs ++ l.drop vs.length
  | x :: l, n + 1, vs => x :: setL l n vs
  | [], _ + 1, _ => []
def oneC (v : SV) : Bool := match v with
  | .agg _ => false
  | .tup _ => false
  | _ => true
def allOne : List SV → Bool
  | [] => true
  | v :: l => cond (oneC v) (allOne l) false
def fillS (place : Nat → Option (Nat × Nat)) (cells : List SV) : List (Nat × SV) → Option (List SV)
  | [] => some cells
  | (i, v) :: rest => match place i with
    | none => none
    | some (off, size) => cond (Nat.beq (cellsOf v).length size) (cond (Nat.ble (Nat.add off size) cells.length) (fillS place (setL cells off (cellsOf v)) rest) none) none
/-- all places one behind the other -/
def seqParts (n : Nat) : Nat → List (Nat × SV) → Option (List SV)
  | _, [] => some []
  | i, (j, v) :: l => cond (Nat.beq i j) (cond (Nat.beq (cellsOf v).length n) (match seqParts n (i + 1) l with
    | some r => some (cellsOf v ++ r)
    | none => none) none) none
def seqP (n : Nat) (vs : List (Nat × SV)) : Option (List SV) := cond (Nat.beq n 0) none (seqParts n 0 vs)
def repl (z : List SV) : Nat → List SV
  | 0 => []
  | n + 1 => z ++ repl z n
def parts (tm : Tr SV) : List (Nat × Operand) → Option (List (Nat × SV))
  | [] => some []
  | (i, x) :: l => match opv tm x with
    | some v => match parts tm l with
      | some vs => some ((i, v) :: vs)
      | none => none
    | none => none
/-- the cells of an array or slice literal -/
def rowS (n len : Nat) (z : SV) (vs : List (Nat × SV)) : Option (List SV) := match seqP n vs with
  | some c => cond (Nat.beq c.length (Nat.mul len n)) (some c) (fillS (fun i => some (Nat.mul i n, n)) (repl (cellsOf z) len) vs)
  | none => fillS (fun i => some (Nat.mul i n, n)) (repl (cellsOf z) len) vs
def bound (tm : Tr SV) (x : Option Operand) (d : Nat) : Option Nat := match x with
  | none => some d
  | some x => opN tm x
def sliceV (n : Nat) (v : SV) (lo hi : Option Nat) : Option SV := match v with
  | .str s => match lo with
    | some lo => match hi with
      | some hi => cond (Nat.ble lo hi) (cond (Nat.ble hi s.length) (some (.str ((s.drop lo).take (Nat.sub hi lo)))) none) none
      | none => none
    | none => none
  | .nils => match lo with
    | some lo => match hi with
      | some hi => cond (Nat.beq lo 0) (cond (Nat.beq hi 0) (some .nils) none) none
      | none => none
    | none => none
  | .sl b off len c => match lo with
    | some lo => match hi with
      | some hi => match c with
        | .ex c => cond (Nat.ble lo hi) (cond (Nat.ble hi c) (some (.sl b (cond (Nat.beq c lo) off (Nat.add off (Nat.mul lo n))) (Nat.sub hi lo) (.ex (Nat.sub c lo)))) none) none
        | .gr d => cond (Nat.ble lo hi) (cond (Nat.ble hi len) (cond (Nat.beq lo 0) (some (.sl b off hi (.gr d))) (cond (Nat.blt lo len) (some (.sl b (Nat.add off (Nat.mul lo n)) (Nat.sub hi lo) (.gr (Nat.add d lo)))) none)) none) none
      | none => none
    | none => none
  | _ => none
/-- is a slice of a capacity that the model draws no longer than that capacity? -/
def capOk (hp : Tr SBlk) (e : TypeId) (n : Nat) (v : SV) : Bool := match v with
  | .sl b _ len c => match c with
    | .ex _ => true
    | .gr d => match hp.get b with
      | some k => match k with
        | ⟨ty, cells, ex, _⟩ => cond ex false (cond (Nat.beq ty e) (cond (Nat.beq n 0) false (Nat.ble (Nat.mul (Nat.add d len) n) cells.length)) false)
      | none => false
  | _ => true
def lenV (v : SV) : Option Nat := match v with
  | .str s => some s.length
  | .nils => some 0
  | .sl _ _ n _ => some n
  | _ => none
/-- what a slice has -/
def slCells (hp : Tr SBlk) (n : Nat) (v : SV) : Option (Nat × List SV) := match v with
  | .nils => some (0, [])
  | .sl b off len _ => match hp.get b with
    | some k => cond (Nat.ble (Nat.add off (Nat.mul len n)) k.cells.length) (some (len, (k.cells.drop off).take (Nat.mul len n))) none
    | none => none
  | _ => none

/-! what an operation is -/
structure AR where
  blk : SBlk
  val : Nat → SV
inductive Cls where
  | sil (f : Tr SV → Tr SBlk → Option SV)
  | alc (f : Tr SV → Option AR)
  | wrt (f : Nat → Tr SV → Tr SBlk → Nat → Option (SV × Tr SBlk × Nat))
  | cal (f : Tr SV → Option (FuncId × List SV))
  | bad
def pickV (tm : Tr SV) (c a b : Operand) : Option SV := match opv tm c with
  | some v => match v with
    | .bool e => match e with
      | .lit n => cond (int0 n) (opv tm b) (opv tm a)
      | e => match opv tm a with
        | some x => match opv tm b with
          | some y => match x with
            | .bool x => match y with
              | .bool y => some (.bool (mkIte e x y))
              | _ => none
            | .int k x => match y with
              | .int l y => cond (decide (k = l)) (some (.int k (mkIte e x y))) none
              | _ => none
            | _ => none
          | none => none
        | none => none
    | _ => none
  | none => none
def unV (u : UnOp) (v : SV) : Option SV := match u with
  | .neg => match v with
    | .int k e => some (.int k (mkWrap k (mkSub (.lit 0) e)))
    | _ => none
  | .xor => match v with
    | .int k e => some (.int k (mkBit .xor k (.lit (cond k.signed (-1) k.max)) e))
    | _ => none
  | .not => match v with
    | .bool e => some (.bool (mkNot e))
    | _ => none
  | _ => none
def nilV (v : SV) : Option SV := match v with
  | .ptr b o => some (.ptr b o)
  | .gptr b o => some (.gptr b o)
  | _ => none
def offV (v : SV) (n : Nat) : Option SV := match v with
  | .ptr b o => some (.ptr b (Nat.add o n))
  | .gptr b o => some (.gptr b (Nat.add o n))
  | _ => none
def bindV (o : Option SV) (f : SV → Option SV) : Option SV := match o with
  | some v => f v
  | none => none
def fieldAt' (t : TypeId) (f : Nat) : Option Field := match P.underlying t with
  | some (.struct fs) => fs[f]?
  | _ => none
/-- a slice's element type -/
def elemOf' (t : TypeId) : Option TypeId := match P.underlying t with
  | some (.slice e) => some e
  | _ => none
def arrOf (t : TypeId) : Option (Nat × TypeId) := match P.underlying t with
  | some (.array n e) => some (n, e)
  | _ => none
def strT (t : TypeId) : Bool := match P.underlying t with
  | some .string => true
  | _ => false
def idxAddr (t : TypeId) (x : SV) (i : Nat) : Option SV := match elemOf' P t with
  | some e => match x with
    | .sl b off len _ => cond (Nat.blt i len) (cond (knownT P e) (some (.ptr b (Nat.add off (Nat.mul i (szOf P e))))) none) none
    | _ => none
  | none => match arrOf P t with
    | some (n, e) => cond (Nat.blt i n) (cond (knownT P e) (offV x (Nat.mul i (szOf P e))) none) none
    | none => none
def idxV (t : TypeId) (x : SV) (i : Nat) : Option SV := match x with
  | .str s => cond (strT P t) (match s[i]? with
    | some c => some (.int .u8 (.lit (.ofNat c.toNat)))
    | none => none) none
  | .agg cs => match arrOf P t with
    | some (n, e) => cond (Nat.blt i n) (cond (knownT P e) (partS P e cs (Nat.mul i (szOf P e))) none) none
    | none => none
  | _ => none
def convV (src dst : TypeId) (v : SV) : Option SV := match v with
  | .int _ e => match P.underlying src with
    | some (.int _) => match P.underlying dst with
      | some (.int k) => some (.int k (mkWrap k e))
      | _ => none
    | _ => none
  | .str s => cond (strT P src) (cond (strT P dst) (some (.str s)) none) none
  | _ => none
def allKnown : List Field → Bool
  | [] => true
  | f :: l => cond (P.info? f.type).isSome (allKnown l) false
def buildV (t : TypeId) (vs : List (Nat × SV)) : Option SV := match zeroOf P t with
  | some z => match P.underlying t with
    | some (.struct fs) => cond (allKnown P fs.toList) (match fillS (fun i => match fs[i]? with
        | some f => some (f.offset, szOf P f.type)
        | none => none) (cellsOf z) vs with
      | some c => some (.agg c)
      | none => none) none
    | some (.array len e) => match seqP (szOf P e) vs with
      | some c => cond (Nat.beq c.length (Nat.mul len (szOf P e))) (cond (Nat.beq (cellsOf z).length (Nat.mul len (szOf P e))) (some (.agg c)) none) none
      | none => cond (P.info? e).isSome (match fillS (fun i => some (Nat.mul i (szOf P e), szOf P e)) (cellsOf z) vs with
        | some c => some (.agg c)
        | none => none) none
    | _ => none
  | none => none
def minV (k : IntKind) (a b : SE) : SV := .int k (mkIte (mkLt b a) b a)
def maxV (k : IntKind) (a b : SE) : SV := .int k (mkIte (mkLt a b) b a)
def storeV (lo : Nat) (hp : Tr SBlk) (a v : SV) : Option (Tr SBlk) := match a with
  | .ptr b off => cond (Nat.ble lo b) (match hp.get b with
    | some k => match k with
      | ⟨ty, cells, ex, fr⟩ => cond fr none (cond (Nat.ble (Nat.add off (cellsOf v).length) cells.length) (cond (allOne (cellsOf v)) (some (hp.set b ⟨ty, setL cells off (cellsOf v), ex, false⟩)) none) none)
    | none => none) none
  | _ => none
def appV (lo : Nat) (hp : Tr SBlk) (nx : Nat) (e : TypeId) (n : Nat) (x y : SV) : Option (SV × Tr SBlk × Nat) := match slCells hp n y with
  | some (m, new) => match x with
    | .nils => match m with
      | 0 => some (.nils, hp, nx)
      | m + 1 => cond (Nat.ble (m + 1) many) (some (.sl nx 0 (m + 1) (.gr 0), hp.set nx ⟨e, new, false, false⟩, nx + 1)) none
    | .sl b off len c => cond (Nat.ble lo b) (cond (Nat.beq off 0) (cond (Nat.ble (Nat.add len m) many) (match hp.get b with
      | some k => match k with
        | ⟨ty, cells, ex, fr⟩ => cond fr none (cond (Nat.beq ty e) (match c with
          | .gr d => cond (Nat.beq d 0) (cond ex none (cond (Nat.beq cells.length (Nat.mul len n)) (some (.sl nx 0 (Nat.add len m) (.gr 0), (hp.del b).set nx ⟨e, cells ++ new, false, false⟩, nx + 1)) none)) none
          | .ex c => cond ex (cond (Nat.beq cells.length (Nat.mul c n)) (cond (Nat.ble len c) (cond (Nat.ble c many) (some (.sl nx 0 (Nat.add len m) (.gr 0), (hp.del b).set nx ⟨e, cells.take (Nat.mul len n) ++ new, false, false⟩, nx + 1)) none) none) none) none) none)
      | none => none) none) none) none
    | _ => none
  | none => none
def copyV (lo : Nat) (hp : Tr SBlk) (nx : Nat) (n : Nat) (x y : SV) : Option (SV × Tr SBlk × Nat) := match x with
  | .sl b off len _ => match slCells hp n y with
    | some (m, new) => cond (Nat.ble m many) (match storeV lo hp (.ptr b off) (.agg (new.take (Nat.mul (cond (Nat.ble m len) m len) n))) with
      | some hp => some (.int .i64 (.lit (.ofNat (cond (Nat.ble m len) m len))), hp, nx)
      | none => none) none
    | none => none
  | _ => none
def szPos (e : TypeId) : Bool := match P.info? e with
  | some i => cond (Nat.beq i.size 0) false (cond (Nat.ble i.bytes 64) (match i.zero with
    | some z => Nat.beq z.cells.size i.size
    | none => false) false)
  | none => false
def lenK (t : TypeId) (v : SV) : Bool := match v with
  | .str _ => strT P t
  | _ => (elemOf' P t).isSome
def builtinC (b : Builtin) (args : Array Operand) (ts : Array TypeId) : Cls := match b with
  | .len => .sil fun tm _ => match opsv tm args.toList with
    | some l => match l with
      | [v] => match ts[0]? with
        | some t => match arrOf P t with
          | some (n, _) => cond (Nat.ble n many) (some (.int .i64 (.lit (.ofNat n)))) none
          | none => cond (lenK P t v) (match lenV v with
            | some n => cond (Nat.ble n many) (some (.int .i64 (.lit (.ofNat n)))) none
            | none => none) none
        | none => none
      | _ => none
    | none => none
  | .min => .sil fun tm _ => match opsv tm args.toList with
    | some l => match l with
      | [.int k a, .int l b] => cond (decide (k = l)) (some (keyV G (minV k a b))) none
      | _ => none
    | none => none
  | .max => .sil fun tm _ => match opsv tm args.toList with
    | some l => match l with
      | [.int k a, .int l b] => cond (decide (k = l)) (some (keyV G (maxV k a b))) none
      | _ => none
    | none => none
  | .append => .wrt fun lo tm hp nx => match opsv tm args.toList with
    | some l => match l with
      | [x, y] => match ts.toList with
        | [t, u] => cond (Nat.beq t u) (match elemOf' P t with
          | some e => cond (szPos P e) (appV lo hp nx e (szOf P e) x y) none
          | none => none) none
        | _ => none
      | _ => none
    | none => none
  | .copy => .wrt fun lo tm hp nx => match opsv tm args.toList with
    | some l => match l with
      | [x, y] => match ts[0]? with
        | some t => match elemOf' P t with
          | some e => cond (szPos P e) (copyV lo hp nx (szOf P e) x y) none
          | none => none
        | none => none
      | _ => none
    | none => none
  | _ => .bad
def cls (o : Op) : Cls := match o with
  | .move x => .sil fun tm _ => opv tm x
  | .assign x => .sil fun tm _ => opv tm x
  | .pick c a b => .sil fun tm _ => pickV tm c a b
  | .binOp b t x y _ => .sil fun tm _ => bindV (opv tm x) fun x => bindV (opv tm y) fun y => keyO G (binS P b t x y)
  | .unOp u _ x => .sil fun tm _ => keyO G (bindV (opv tm x) (unV u))
  | .nilCheck x => .sil fun tm _ => bindV (opv tm x) nilV
  | .fieldAddr t x f => match fieldAt' P t f with
    | some f => cond (Nat.beq (szOf P f.type) 0) .bad (.sil fun tm _ => bindV (opv tm x) fun v => offV v f.offset)
    | none => .bad
  | .field t x f => match fieldAt' P t f with
    | some f => .sil fun tm _ => bindV (opv tm x) fun v => match v with
      | .agg cs => partS P f.type cs f.offset
      | _ => none
    | none => .bad
  | .indexAddr t x i => .sil fun tm _ => bindV (opv tm x) fun v => match opN tm i with
    | some i => idxAddr P t v i
    | none => none
  | .index t x i => .sil fun tm _ => bindV (opv tm x) fun v => match opN tm i with
    | some i => idxV P t v i
    | none => none
  | .extract x i => .sil fun tm _ => bindV (opv tm x) fun v => match v with
    | .tup vs => vs[i]?
    | _ => none
  | .slice t x lo hi m => match m with
    | none => match elemOf' P t with
      | some e => .sil fun tm hp => bindV (opv tm x) fun v => match v with
        | .str _ => none
        | v => match lenV v with
          | some n => cond (capOk hp e (szOf P e) v) (cond (knownT P e) (sliceV (szOf P e) v (bound tm lo 0) (bound tm hi n)) none) none
          | none => none
      | none => cond (strT P t) (.sil fun tm _ => bindV (opv tm x) fun v => match v with
        | .str s => sliceV 1 (.str s) (bound tm lo 0) (bound tm hi s.length)
        | _ => none) .bad
    | some _ => .bad
  | .build t ps => .sil fun tm _ => match parts tm ps.toList with
    | some vs => buildV P t vs
    | none => none
  | .convert src dst x => match elemOf' P dst with
    | some e => cond (strT P src) (cond (Nat.beq (descKind P e) 5) (cond (Nat.beq (szOf P e) 1) (.alc fun tm => match opv tm x with
      | some v => match v with
        | .str s => cond (Nat.ble s.length many) (some ⟨⟨e, s.map fun c => .int .u8 (.lit (.ofNat c.toNat)), false, true⟩, fun b => .sl b 0 s.length (.gr 0)⟩) none
        | _ => none
      | none => none) .bad) .bad) .bad
    | none => .sil fun tm _ => bindV (opv tm x) (convV P src dst)
  | .makeFunc f first captured => match f with
    | .func f => match first.toList with
      | [] => .sil fun tm _ => match opsv tm captured.toList with
        | some vs => some (.func f vs)
        | none => none
      | _ => .bad
    | _ => .bad
  | .load t a => .sil fun tm hp => bindV (opv tm a) (loadS P G hp t)
  | .box t x => .alc fun tm => match opv tm x with
    | some v => cond (allOne (cellsOf v)) (some ⟨⟨t, cellsOf v, true, false⟩, fun b => .ptr b 0⟩) none
    | none => none
  | .alloc t => .alc fun _ => match zeroOf P t with
    | some v => cond (allOne (cellsOf v)) (some ⟨⟨t, cellsOf v, true, false⟩, fun b => .ptr b 0⟩) none
    | none => none
  | .buildSlice t len ps => match elemOf' P t with
    | some e => cond (and (szPos P e) (Nat.ble (Nat.mul len (szOf P e)) many)) (.alc fun tm => match parts tm ps.toList with
      | some vs => match zeroOf P e with
        | some z => match rowS (szOf P e) len z vs with
          | some cs => cond (allOne cs) (some ⟨⟨e, cs, true, false⟩, fun b => .sl b 0 len (.ex len)⟩) none
          | none => none
        | none => none
      | none => none) .bad
    | none => .bad
  | .makeSlice t l c => match elemOf' P t with
    | some e => cond (szPos P e) (.alc fun tm => match opN tm l with
      | some l => match opN tm c with
        | some c => cond (Nat.ble l c) (cond (Nat.ble c many) (match zeroOf P e with
          | some z => cond (allOne (cellsOf z)) (some ⟨⟨e, repl (cellsOf z) c, true, false⟩, fun b => .sl b 0 l (.ex c)⟩) none
          | none => none) none) none
        | none => none
      | none => none) .bad
    | none => .bad
  | .store t a v => .wrt fun lo tm hp nx => match opv tm a with
    | some a => match opv tm v with
      | some v => cond (and (knownT P t) (Nat.beq (cellsOf v).length (szOf P t))) (match storeV lo hp a v with
        | some hp => some (.tup [], hp, nx)
        | none => none) none
      | none => none
    | none => none
  | .call c => match c with
    | ⟨callee, args, ts⟩ => match callee with
      | .builtin b => builtinC P G b args ts
      | .value f => .cal fun tm => match opv tm f with
        | some v => match v with
          | .func f caps => match opsv tm args.toList with
            | some vs => some (f, vs ++ caps)
            | none => none
          | _ => none
        | none => none
      | .invoke _ _ => .bad
  | _ => .bad

end Sx
end Go.Proofs.YtfdggebddcoeeaaGreatDoor
end
