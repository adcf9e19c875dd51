/-
  The program's two floats: it comes to what the names say.
-/
import Derived.Test.YtfdggebddcoeeaaGreatDoorFbPart6
import Derived.Test.YtfdggebddcoeeaaGreatDoorFbDb
import Derived.Test.YtfdggebddcoeeaaGreatDoorFbSc
set_option linter.unusedVariables false
set_option linter.unusedSimpArgs false
set_option maxRecDepth 100000
noncomputable section
namespace Go.Proofs.YtfdggebddcoeeaaGreatDoor
namespace Sx
open Go Go.RowKit

def isTU (r : R) (e : SE) : Bool := match r with
  | some (v, _, _) => match v with
    | .tup l => match l with
      | [x, y] => match x with
        | .int k x => match y with
          | .int j z => match z with
            | .lit z => cond (int0 z) (cond (decide (k = .u64)) (cond (decide (j = .i64)) (SE.beq x e) false) false) false
            | _ => false
          | _ => false
        | _ => false
      | _ => false
    | _ => false
  | none => false
theorem isTU_ok {r : R} {e : SE} (h : isTU r e = true) : ∃ hp k, r = some (.tup [.int .u64 e, .int .i64 (.lit 0)], hp, k) := by
  unfold isTU at h
  repeat' (split at h)
  all_goals first
    | (cases h; done)
    | (rename_i z
       cases h1 : int0 z <;> rw [h1] at h <;> try (cases h; done)
       rename_i k x _ j _
       simp only [Bool.cond_true] at h
       cases h2 : decide (k = IntKind.u64) <;> rw [h2] at h <;> try (cases h; done)
       cases h3 : decide (j = IntKind.i64) <;> rw [h3] at h <;> try (cases h; done)
       rw [of_decide_eq_true h2, of_decide_eq_true h3, (int0_iff z).1 h1, SE.beq_eq h]
       exact ⟨_, _, rfl⟩)
def vaB (x y : Int) (z r : Nat) : Nat → Int
  | 0 => x
  | 1 => y
  | 2 => z
  | 3 => r
  | _ => 0
def w2 (n : Nat) : SE := .md (.var 2) n
def rE (n : Nat) : SE := .md (.var 3) n
section
variable {n : Nat} {x y : Int} {z r : Nat}
theorem bA_den : (wA n).den (EG (vaB x y z r)) = (wordOf n x : Nat) := by
  have := emod_range x n
  show x % 2 ^ n = _
  unfold wordOf
  omega
theorem bB_den : (wB n).den (EG (vaB x y z r)) = (wordOf n y : Nat) := by
  have := emod_range y n
  show y % 2 ^ n = _
  unfold wordOf
  omega
theorem word_lt (x : Int) : wordOf n x < 2 ^ n := by
  have := emod_range x n
  have e : ((2 ^ n : Nat) : Int) = 2 ^ n := by push_cast; rfl
  unfold wordOf
  omega
theorem bz_den (hz : z < 2 ^ n) : (w2 n).den (EG (vaB x y z r)) = (z : Nat) := nat_md hz
theorem br_den (hr : r < 2 ^ n) : (rE n).den (EG (vaB x y z r)) = (r : Nat) := nat_md hr
theorem argsB_wf {n : Nat} {op : Nat} (hn : n < 100) (ho : op < 100) : wfL (EG (vaB x y z r)) 0 (args2 n op) := ⟨in_bits hn, in_bits ho, u64_md _, u64_md _, trivial⟩
theorem argsB_den {n op : Nat} (hx : inR .u64 x) (hy : inR .u64 y) : (denL (EG (vaB x y z r)) loc0 (args2 n op)).toArray = #[.int .i64 n, .int .i64 op, .int .u64 x, .int .u64 y] := by
  show #[Value.int .i64 (n : Int), .int .i64 (op : Int), .int .u64 (x % 2 ^ 64), .int .u64 (y % 2 ^ 64)] = _
  rw [u64_id hx, u64_id hy]
theorem argsB1_wf {n : Nat} {op : Nat} (hn : n < 100) (ho : op < 100) : wfL (EG (vaB x y z r)) 0 (args1 n op) := ⟨in_bits hn, in_bits ho, u64_md _, trivial⟩
theorem argsB1_den {n op : Nat} (hx : inR .u64 x) : (denL (EG (vaB x y z r)) loc0 (args1 n op)).toArray = #[.int .i64 n, .int .i64 op, .int .u64 x] := by
  show #[Value.int .i64 (n : Int), .int .i64 (op : Int), .int .u64 (x % 2 ^ 64)] = _
  rw [u64_id hx]
theorem bnan_den (hn : n = 32 ∨ n = 64) {e : SE} {a : Nat} (ha : a < 2 ^ n) (he : e.den (EG (vaB x y z r)) = a) {t : Bool} (ht : t = Fx.isNaN (fmtOf n) a) : (nanE n e).den (EG (vaB x y z r)) = (b01 t).den (EG (vaB x y z r)) := by
  rw [nanE_den _ hn, he, word_nat ha, ht]
  cases Fx.isNaN (fmtOf n) a <;> rfl
theorem bneg_den (hn : n = 32 ∨ n = 64) {e : SE} {a : Nat} (ha : a < 2 ^ n) (he : e.den (EG (vaB x y z r)) = a) {t : Bool} (ht : t = Fx.negOf (fmtOf n) a) : (negE n e).den (EG (vaB x y z r)) = (b01 t).den (EG (vaB x y z r)) := by
  rw [aneg_den' hn ha he, ht]
  cases Fx.negOf (fmtOf n) a <;> rfl
theorem bsA_den (hn : n = 32 ∨ n = 64) : (sA n).den (EG (vaB x y z r)) = (Fx.rungOf (fmtOf n) (wordOf n x) : Nat) := by
  rw [word_rungOf hn]
  rfl
theorem bsB_den (hn : n = 32 ∨ n = 64) : (sB n).den (EG (vaB x y z r)) = (Fx.rungOf (fmtOf n) (wordOf n y) : Nat) := by
  rw [word_rungOf hn]
  rfl
end
/-- a run of two, by its result -/
theorem runB {f n op : Nat} (hn : n = 32 ∨ n = 64) (ho : op < 100) {x y : Int} {z r : Nat} {ks : List (SE × SE)} {sums : Tr Sm} {s : SE} (hS : SumsOk (EG (vaB x y z r)) Tryz.prog (Gz ks) sums) (h : isTU (runV sums ks f (args2 n op)) s = true) (hk : ∀ p ∈ ks, p.1.den (EG (vaB x y z r)) = p.2.den (EG (vaB x y z r))) (hx : inR .u64 x) (hy : inR .u64 y) (w : World) :
    CX Tryz.prog f #[.int .i64 n, .int .i64 op, .int .u64 x, .int .u64 y] w (fun u w' => u = .tuple #[.int .u64 (s.den (EG (vaB x y z r))), .int .i64 0] ∧ Below w.heap.size w w') := by
  obtain ⟨hp, k, hr⟩ := isTU_ok h
  have hc := leafS_cx hS hr hk (argsB_wf (by omega) ho) w
  rw [argsB_den hx hy] at hc
  refine cx_mono hc fun v w' hv => ?_
  obtain ⟨⟨loc', h1⟩, h2, _⟩ := hv
  exact ⟨h1, h2⟩
theorem runB1 {f n op : Nat} (hn : n = 32 ∨ n = 64) (ho : op < 100) {x y : Int} {z r : Nat} {ks : List (SE × SE)} {sums : Tr Sm} {s : SE} (hS : SumsOk (EG (vaB x y z r)) Tryz.prog (Gz ks) sums) (h : isTU (runV sums ks f (args1 n op)) s = true) (hk : ∀ p ∈ ks, p.1.den (EG (vaB x y z r)) = p.2.den (EG (vaB x y z r))) (hx : inR .u64 x) (w : World) :
    CX Tryz.prog f #[.int .i64 n, .int .i64 op, .int .u64 x] w (fun u w' => u = .tuple #[.int .u64 (s.den (EG (vaB x y z r))), .int .i64 0] ∧ Below w.heap.size w w') := by
  obtain ⟨hp, k, hr⟩ := isTU_ok h
  have hc := leafS_cx hS hr hk (argsB1_wf (by omega) ho) w
  rw [argsB1_den hx] at hc
  refine cx_mono hc fun v w' hv => ?_
  obtain ⟨⟨loc', h1⟩, h2, _⟩ := hv
  exact ⟨h1, h2⟩

/-! a NaN -/
def nanK (n : Nat) (ka kb : Bool) : List (SE × SE) := [(nanE n (wA n), b01 ka), (nanE n (wB n), b01 kb)]
theorem pb_nan : ([32, 64].all fun n => [1, 2, 3, 4, 5, 6].all fun op => [(true, true), (true, false), (false, true)].all fun k => isTU (runV sumsG (nanK n k.1 k.2) 104 (args2 n op)) (.lit (.ofNat (nanW n)))) = true := by kernel_rfl
theorem pb_nanP : ([32, 64].all fun n => [8, 9].all fun op => [(true, true), (true, false), (false, true)].all fun k => isTU (runV sumsG (nanK n k.1 k.2) 104 (args2 n op)) (wA n)) = true := by kernel_rfl
/-! arithmetic -/
def smAr (n : Nat) (Y : SE) : Sm := fun a hp nx => match a with
  | [f, .int .u64 x, .int .u64 y] => cond (Nat.beq (fmtN f) n) (cond (SE.beq x (wA n)) (cond (SE.beq y Y) (some (.int .u64 (rE n), hp, nx)) none) none) none
  | _ => none
theorem smAr_ok {va : Nat → Int} {G : Gl} {g n a b r : Nat} {Y : SE} (hn : n = 32 ∨ n = 64) (hA : (wA n).den (EG va) = a) (hY : Y.den (EG va) = b) (hR : (rE n).den (EG va) = r) (hr : r < 2 ^ n)
    (h : ∀ w, CX Tryz.prog g #[fmtVal n, .int .u64 (a : Int), .int .u64 (b : Int)] w (fun u w' => u = .int .u64 (r : Nat) ∧ Below w.heap.size w w')) : SmOk (EG va) Tryz.prog G g (smAr n Y) := by
  intro args hp nx v hp' nx' hv loc w hrr hg hw
  unfold smAr at hv
  split at hv
  · rename_i f x y
    cases h1 : Nat.beq (fmtN f) n <;> rw [h1] at hv <;> try (cases hv; done)
    cases h2 : SE.beq x (wA n) <;> rw [h2] at hv <;> try (cases hv; done)
    cases h3 : SE.beq y Y <;> rw [h3] at hv <;> cases hv
    obtain ⟨_, hf⟩ := fmtN_ok (Nat.eq_of_beq_eq_true h1) (by omega) (EG va) loc
    have hden : (denL (EG va) loc [f, .int .u64 x, .int .u64 y]).toArray = #[fmtVal n, .int .u64 (a : Int), .int .u64 (b : Int)] := by
      rw [SE.beq_eq h2, SE.beq_eq h3]
      simp only [denL, SV.den, hf, hA, hY]
    rw [hden]
    refine cx_mono (h w) fun u w' ⟨e1, e2⟩ => ⟨loc, ?_, step_of_below hrr e2 ?_⟩
    · rw [e1]
      simp only [SV.den]
      rw [hR]
    · simp only [SV.wf]
      rw [hR]
      exact nat_u64 (w_u64 hn hr)
  · cases hv
def gOf (op : Nat) : Nat := match op with
  | 1 => 155
  | 2 => 155
  | 3 => 156
  | _ => 157
def isSub (op : Nat) : Bool := Nat.beq op 2
def yOf (n op : Nat) : SE := cond (isSub op) (w2 n) (wB n)
def arK (n op : Nat) : List (SE × SE) := nanK n false false ++ cond (isSub op) [(mkBit .xor .u64 (wB n) (.lit (.ofNat (2 ^ (n - 1)))), w2 n)] []
theorem pb_ar : ([32, 64].all fun n => [1, 2, 3, 4].all fun op => isTU (runV (sumsG.set (gOf op) (smAr n (yOf n op))) (arK n op) 104 (args2 n op)) (rE n)) = true := by kernel_rfl
/-! the lesser, the greater -/
def lessB (bz na nb l1 l2 : Bool) : Bool := cond bz false (cond (na != nb) na (cond na l2 l1))
def endK (n : Nat) (bz na nb l1 l2 : Bool) : List (SE × SE) := nanK n false false ++ [(mkEq (mkOr .u64 (sA n) (sB n)) (.lit 0), b01 bz), (mkEq (mkOr .u64 (sB n) (sA n)) (.lit 0), b01 bz), (negE n (wA n), b01 na), (negE n (wB n), b01 nb), (mkLt (sA n) (sB n), b01 l1), (mkLt (sB n) (sA n), b01 l2)]
def zK (n : Nat) (na : Bool) : List (SE × SE) := [(mkOr .u64 (wA n) (wB n), cond na (wA n) (wB n)), (mkAnd .u64 (wA n) (wB n), cond na (wB n) (wA n))]
def endR (n op : Nat) (bz na nb l1 l2 : Bool) : SE := match op with
  | 5 => cond bz (cond na (wA n) (wB n)) (cond (lessB bz na nb l1 l2) (wA n) (wB n))
  | 6 => cond bz (cond na (wB n) (wA n)) (cond (lessB bz na nb l1 l2) (wB n) (wA n))
  | 8 => cond (lessB bz nb na l2 l1) (wB n) (wA n)
  | _ => cond (lessB bz na nb l1 l2) (wB n) (wA n)
theorem pb_end : ([32, 64].all fun n => [5, 6, 8, 9].all fun op => [false, true].all fun bz => [false, true].all fun na => [false, true].all fun nb => [false, true].all fun l1 => [false, true].all fun l2 => isTU (runV sumsG (endK n bz na nb l1 l2 ++ cond bz (zK n na) []) 104 (args2 n op)) (endR n op bz na nb l1 l2)) = true := by kernel_rfl

end Sx
end Go.Proofs.YtfdggebddcoeeaaGreatDoor
end
