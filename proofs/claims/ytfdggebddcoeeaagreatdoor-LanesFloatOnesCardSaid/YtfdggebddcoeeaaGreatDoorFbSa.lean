/-
  The program's helpers of floats as calls: contracts for walks.
-/
import Derived.Test.YtfdggebddcoeeaaGreatDoorFbPart6
set_option linter.unusedVariables false
set_option linter.unusedSimpArgs false
set_option maxRecDepth 100000
noncomputable section
namespace Go.Proofs.YtfdggebddcoeeaaGreatDoor
namespace Sx
open Go Go.RowKit

def isB1 (r : R) (e : SE) : Bool := match r with
  | some (v, _, _) => match v with
    | .bool x => SE.beq x e
    | _ => false
  | none => false
theorem isB1_ok {r : R} {e : SE} (h : isB1 r e = true) : ∃ hp k, r = some (.bool e, hp, k) := by
  unfold isB1 at h
  split at h
  · split at h
    · rw [SE.beq_eq h]
      exact ⟨_, _, rfl⟩
    · cases h
  · cases h
def argsO (n : Nat) : List SV := [fmtV n, .int .u64 (wA n)]
theorem size_run : ([32, 64].all fun n => isUE (runV sumsG [] 141 (argsO n)) (sA n)) = true := by kernel_rfl
theorem neg_run : ([32, 64].all fun n => isB1 (runV sumsG [] 153 (argsO n)) (negE n (wA n))) = true := by kernel_rfl
theorem inf_run : ([32, 64].all fun n => isUE (runV sumsG [] 198 [fmtV n]) (.lit (.ofNat (infR n)))) = true := by kernel_rfl
section
variable {n a : Nat}
theorem argsO_wf (hn : n = 32 ∨ n = 64) (ha : a < 2 ^ n) : wfL (EG (vaW a 0 0 0)) 0 (argsO n) := by
  refine ⟨⟨?_, ?_, trivial⟩, ?_, trivial⟩
  · rcases hn with rfl | rfl <;> exact in_bits (by decide)
  · rcases hn with rfl | rfl <;> exact in_bits (by decide)
  · simp only [SV.wf]
    rw [wwA_den ha]
    exact nat_u64 (w_u64 hn ha)
theorem argsO_den (ha : a < 2 ^ n) : (denL (EG (vaW a 0 0 0)) loc0 (argsO n)).toArray = #[fmtVal n, .int .u64 (a : Int)] := by
  show #[fmtVal n, .int .u64 ((wA n).den (EG (vaW a 0 0 0)))] = _
  rw [wwA_den ha]
end
theorem c_size {n : Nat} (hn : n = 32 ∨ n = 64) {a : Nat} (ha : a < 2 ^ n) (w : World) : Calls Tryz.prog 141 #[fmtVal n, .int .u64 (a : Int)] w fun e w' => e = .returned (.int .u64 (rgI n a : Nat)) ∧ Below w.heap.size w w' := by
  obtain ⟨hp, k, hr⟩ := isUE_ok (List.all_eq_true.1 size_run n (mem_n hn))
  have hc := leafS_cx (E := EG (vaW a 0 0 0)) sumsG_ok hr (fun p hp => by cases hp) (argsO_wf hn ha) w
  rw [argsO_den ha] at hc
  refine (calls_of_cx okP Tryz.func141 (by kernel_rfl) hc).mono fun e w' h => ?_
  cases e with
  | returned v =>
    obtain ⟨⟨loc', h1⟩, h2, _⟩ := h
    refine ⟨?_, h2⟩
    rw [h1]
    simp only [SV.den]
    rw [wsA_den]
  | _ => exact h.elim
theorem c_neg {n : Nat} (hn : n = 32 ∨ n = 64) {a : Nat} (ha : a < 2 ^ n) (w : World) : Calls Tryz.prog 153 #[fmtVal n, .int .u64 (a : Int)] w fun e w' => e = .returned (.bool (Fx.negOf (fmtOf n) a)) ∧ Below w.heap.size w w' := by
  obtain ⟨hp, k, hr⟩ := isB1_ok (List.all_eq_true.1 neg_run n (mem_n hn))
  have hc := leafS_cx (E := EG (vaW a 0 0 0)) sumsG_ok hr (fun p hp => by cases hp) (argsO_wf hn ha) w
  rw [argsO_den ha] at hc
  refine (calls_of_cx okP Tryz.func153 (by kernel_rfl) hc).mono fun e w' h => ?_
  cases e with
  | returned v =>
    obtain ⟨⟨loc', h1⟩, h2, _⟩ := h
    refine ⟨?_, h2⟩
    rw [h1]
    simp only [SV.den]
    rw [aneg_den' hn ha (wwA_den ha)]
    cases Fx.negOf (fmtOf n) a <;> rfl
  | _ => exact h.elim
theorem c_inf {n : Nat} (hn : n = 32 ∨ n = 64) (w : World) : Calls Tryz.prog 198 #[fmtVal n] w fun e w' => e = .returned (.int .u64 (infR n : Nat)) ∧ Below w.heap.size w w' := by
  obtain ⟨hp, k, hr⟩ := isUE_ok (List.all_eq_true.1 inf_run n (mem_n hn))
  have hwf : wfL (EG (vaW 0 0 0 0)) 0 [fmtV n] := by
    refine ⟨⟨?_, ?_, trivial⟩, trivial⟩
    · rcases hn with rfl | rfl <;> exact in_bits (by decide)
    · rcases hn with rfl | rfl <;> exact in_bits (by decide)
  have hc := leafS_cx (E := EG (vaW 0 0 0 0)) sumsG_ok hr (fun p hp => by cases hp) hwf w
  have hden : (denL (EG (vaW 0 0 0 0)) loc0 [fmtV n]).toArray = #[fmtVal n] := rfl
  rw [hden] at hc
  refine (calls_of_cx okP Tryz.func198 (by kernel_rfl) hc).mono fun e w' h => ?_
  cases e with
  | returned v =>
    obtain ⟨⟨loc', h1⟩, h2, _⟩ := h
    exact ⟨by rw [h1]; rfl, h2⟩
  | _ => exact h.elim
theorem c_parts {n : Nat} (hn : n = 32 ∨ n = 64) {a : Int} (ha : inR .u64 a) (w : World) : Calls Tryz.prog 199 #[fmtVal n, .int .u64 a] w fun e w' => e = .returned (.tuple #[.int .u64 (Fx.magOf (fmtOf n) (rgI n a) : Nat), .int .i64 (Fx.placeOf (fmtOf n) (rgI n a))]) ∧ Below w.heap.size w w' := by
  refine (calls_of_cx okP Tryz.func199 (by kernel_rfl) (parts_cx hn ha w)).mono fun e w' h => ?_
  cases e with
  | returned v => exact ⟨by rw [h.1], h.2⟩
  | _ => exact h.elim
theorem c_round {n : Nat} {ng : Bool} {m : Nat} {e : Int} {more : Bool} {r : Nat} (h : Rounds n ng m e more r) (w : World) : Calls Tryz.prog 201 #[fmtVal n, .bool ng, .int .u64 m, .int .i64 e, .bool more] w fun e w' => e = .returned (.int .u64 ((fmtOf n).word ng r : Nat)) ∧ Below w.heap.size w w' := by
  refine (calls_of_cx okP Tryz.func201 (by kernel_rfl) (h w)).mono fun e w' h => ?_
  cases e with
  | returned v => exact ⟨by rw [h.1], h.2⟩
  | _ => exact h.elim

end Sx
end Go.Proofs.YtfdggebddcoeeaaGreatDoor
end
