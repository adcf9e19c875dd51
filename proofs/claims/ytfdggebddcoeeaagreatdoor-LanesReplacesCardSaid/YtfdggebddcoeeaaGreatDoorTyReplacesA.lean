/-
  LanesReplaces: its arguments, its cases.
-/
import Derived.Test.YtfdggebddcoeeaaGreatDoorTyLw
set_option linter.unusedVariables false
set_option linter.unusedSimpArgs false
set_option maxRecDepth 100000
noncomputable section
namespace Go.Proofs.YtfdggebddcoeeaaGreatDoor
namespace Sx
open Go Go.RowKit

def repArgs : List SV := [.agg [.int .i64 (.var 0), .int .u64 (.md (.var 1) 64), .int .u64 (.md (.var 2) 64), .bool (.var 3)], .int .i64 (.var 4), .int .i64 (.var 5), .int .u64 (.md (.var 6) 64)]
def repVa (t l m : Int) (b : Bool) (x y n : Int) : Nat → Int := fun i => match i with
  | 0 => t
  | 1 => l
  | 2 => m
  | 3 => cond b 1 0
  | 4 => x
  | 5 => y
  | _ => n
/-- which shape, which lane -/
def repK (k a : Nat) : List (SE × SE) := [(.md (.var 4) 2, .lit (.ofNat k)), (.md (.var 5) (4 - k), .lit (.ofNat a))]
def repA (t l m : Int) (b : Bool) (x y n : Int) : Array Value := #[.agg #[.int .i64 t, .int .u64 l, .int .u64 m, .bool b], .int .i64 x, .int .i64 y, .int .u64 n]
theorem rep_runs (hall : ∀ k, k < 4 → ∀ a, a < 2 ^ (4 - k) → yes (call Tryz.prog (Gt (repK k a)) sumsA 60 3 repArgs .lf 0) = true) {W : World} (hT : TabOk W) {t l m x y n : Int} {b : Bool}
    (w0 : inR .i64 t) (w1 : inR .u64 l) (w2 : inR .u64 m) (w3 : inR .i64 x) (w4 : inR .i64 y) (w5 : inR .u64 n) :
    Calls Tryz.prog 3 (repA t l m b x y n) W (fun e W' => e = .returned (.bool true) ∧ Below W.heap.size W W') := by
  have h1 := emod_range x 2
  obtain ⟨k, hk⟩ := Int.eq_ofNat_of_zero_le h1.1
  have hk4 : k < 4 := by rw [hk] at h1; have := h1.2; omega
  have h2 := emod_range y (4 - k)
  obtain ⟨a, ha⟩ := Int.eq_ofNat_of_zero_le h2.1
  have hlt : a < 2 ^ (4 - k) := by
    have := h2.2
    rw [ha] at this
    exact_mod_cast this
  let E : Env := ⟨fun _ _ => 0, fun _ _ _ => 0, repVa t l m b x y n⟩
  obtain ⟨q1, k1, e⟩ := yes_ok (hall k hk4 a hlt)
  have hkeys : ∀ p ∈ repK k a, p.1.den E = p.2.den E := fun p hp => by
    simp only [repK, List.mem_cons, List.not_mem_nil, or_false] at hp
    rcases hp with rfl | rfl
    · exact hk
    · exact ha
  have hw : wfL E 0 repArgs := ⟨⟨w0, u64_md _, u64_md _, trivial, trivial⟩, w3, w4, u64_md _, trivial⟩
  have hc := eval_ok okP mixed sumsA_ok 60 3 repArgs .lf 0 _ q1 k1 e loc0 W (hrel_lf _ _ _) (gok hT hkeys (fun s hs => by cases hs)) hw
  have hd : (denL E loc0 repArgs).toArray = repA t l m b x y n := by
    show #[Value.agg #[.int .i64 t, .int .u64 (l % 2 ^ 64), .int .u64 (m % 2 ^ 64), .bool (decide ((cond b 1 0 : Int) ≠ 0))], .int .i64 x, .int .i64 y, .int .u64 (n % 2 ^ 64)] = _
    rw [boolv, u64_id w1, u64_id w2, u64_id w5]
    rfl
  rw [hd] at hc
  refine (calls_of_cx okP Tryz.func3 (by kernel_rfl) hc).mono fun ex W' hx => ?_
  cases ex <;> try exact absurd hx id
  obtain ⟨loc', e1, e2⟩ := hx
  exact ⟨by rw [e1]; rfl, e2.bel⟩

end Sx
end Go.Proofs.YtfdggebddcoeeaaGreatDoor
end
