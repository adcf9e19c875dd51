/-
  LanesFloats: the run at any arguments.
-/
import Derived.Test.YtfdggebddcoeeaaGreatDoorFbFloats1
import Derived.Test.YtfdggebddcoeeaaGreatDoorFbFloats2
import Derived.Test.YtfdggebddcoeeaaGreatDoorFbFloats3
import Derived.Test.YtfdggebddcoeeaaGreatDoorFbFloats4
set_option linter.unusedVariables false
set_option linter.unusedSimpArgs false
set_option maxRecDepth 100000
noncomputable section
namespace Go.Proofs.YtfdggebddcoeeaaGreatDoor
namespace Sx
open Go Go.RowKit

theorem floats_all : ∀ j, j < 16 → yes (call Tryz.prog (Gt [keyL 16 j]) sumsFloats 60 12 lawArgs .lf 0) = true
  | 0, _ => floats0
  | 1, _ => floats1
  | 2, _ => floats2
  | 3, _ => floats3
  | 4, _ => floats4
  | 5, _ => floats5
  | 6, _ => floats6
  | 7, _ => floats7
  | 8, _ => floats8
  | 9, _ => floats9
  | 10, _ => floats10
  | 11, _ => floats11
  | 12, _ => floats12
  | 13, _ => floats13
  | 14, _ => floats14
  | 15, _ => floats15
  | _ + 16, h => absurd h (by omega)
theorem floats_runs (W : World) (hL : laidMetH Tryz.prog Rows.lanesFloatsRow.laid W) {x t1 l1 m1 t2 l2 m2 t3 l3 m3 y : Int} {n1 n2 n3 : Bool} (h : Rng x t1 l1 m1 t2 l2 m2 t3 l3 m3 y) :
    Calls Tryz.prog 12 (valA x t1 l1 m1 t2 l2 m2 t3 l3 m3 y n1 n2 n3) W (fun e W' => e = .returned (.bool true) ∧ Below W.heap.size W W') := by
  obtain ⟨j, hj, hk⟩ := keyL_holds (E := EX (lawVa x t1 l1 m1 t2 l2 m2 t3 l3 m3 y n1 n2 n3)) (len := 16) (by decide)
  exact law_core Tryz.func12 (by kernel_rfl) rfl (sumsFloats_ok _ _ _) (floats_all j hj) (tab_of hL (by kernel_rfl) (by simp [Rows.lanesFloatsRow])) (fun p hp => by rw [List.mem_singleton.1 hp]; exact hk) (fun s hs => by cases hs) h

end Sx
end Go.Proofs.YtfdggebddcoeeaaGreatDoor
end
