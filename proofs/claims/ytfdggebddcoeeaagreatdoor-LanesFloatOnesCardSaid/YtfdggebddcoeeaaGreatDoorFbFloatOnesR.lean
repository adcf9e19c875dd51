/-
  LanesFloatOnes: the run at any arguments.
-/
import Derived.Test.YtfdggebddcoeeaaGreatDoorFbFloatOnes1
import Derived.Test.YtfdggebddcoeeaaGreatDoorFbFloatOnes2
import Derived.Test.YtfdggebddcoeeaaGreatDoorFbFloatOnes3
import Derived.Test.YtfdggebddcoeeaaGreatDoorFbFloatOnes4
set_option linter.unusedVariables false
set_option linter.unusedSimpArgs false
set_option maxRecDepth 100000
noncomputable section
namespace Go.Proofs.YtfdggebddcoeeaaGreatDoor
namespace Sx
open Go Go.RowKit

theorem floatOnes_all : ∀ j, j < 14 → yes (call Tryz.prog (Gt [keyL 14 j]) sumsFloatOnes 60 13 lawArgs .lf 0) = true
  | 0, _ => floatOnes0
  | 1, _ => floatOnes1
  | 2, _ => floatOnes2
  | 3, _ => floatOnes3
  | 4, _ => floatOnes4
  | 5, _ => floatOnes5
  | 6, _ => floatOnes6
  | 7, _ => floatOnes7
  | 8, _ => floatOnes8
  | 9, _ => floatOnes9
  | 10, _ => floatOnes10
  | 11, _ => floatOnes11
  | 12, _ => floatOnes12
  | 13, _ => floatOnes13
  | _ + 14, h => absurd h (by omega)
theorem floatOnes_runs (W : World) (hL : laidMetH Tryz.prog Rows.lanesFloatOnesRow.laid W) {x t1 l1 m1 t2 l2 m2 t3 l3 m3 y : Int} {n1 n2 n3 : Bool} (h : Rng x t1 l1 m1 t2 l2 m2 t3 l3 m3 y) :
    Calls Tryz.prog 13 (valA x t1 l1 m1 t2 l2 m2 t3 l3 m3 y n1 n2 n3) W (fun e W' => e = .returned (.bool true) ∧ Below W.heap.size W W') := by
  obtain ⟨j, hj, hk⟩ := keyL_holds (E := EX (lawVa x t1 l1 m1 t2 l2 m2 t3 l3 m3 y n1 n2 n3)) (len := 14) (by decide)
  exact law_core Tryz.func13 (by kernel_rfl) rfl (sumsFloatOnes_ok _ _ _) (floatOnes_all j hj) (tab_of hL (by kernel_rfl) (by simp [Rows.lanesFloatOnesRow])) (fun p hp => by rw [List.mem_singleton.1 hp]; exact hk) (fun s hs => by cases hs) h

end Sx
end Go.Proofs.YtfdggebddcoeeaaGreatDoor
end
