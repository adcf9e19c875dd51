/-
  LanesFloatsStand: the run at any arguments.
-/
import Derived.Test.YtfdggebddcoeeaaGreatDoorTyFloatsStand1
import Derived.Test.YtfdggebddcoeeaaGreatDoorTyFloatsStand2
import Derived.Test.YtfdggebddcoeeaaGreatDoorTyFloatsStand3
set_option linter.unusedVariables false
set_option linter.unusedSimpArgs false
set_option maxRecDepth 100000
noncomputable section
namespace Go.Proofs.YtfdggebddcoeeaaGreatDoor
namespace Sx
open Go Go.RowKit

theorem fstand_all : ∀ j, j < 12 → yes (call Tryz.prog (Gt [keyL 12 j]) sumsFloatsStand 60 8 lawArgs .lf 0) = true
  | 0, _ => fstand0
  | 1, _ => fstand1
  | 2, _ => fstand2
  | 3, _ => fstand3
  | 4, _ => fstand4
  | 5, _ => fstand5
  | 6, _ => fstand6
  | 7, _ => fstand7
  | 8, _ => fstand8
  | 9, _ => fstand9
  | 10, _ => fstand10
  | 11, _ => fstand11
  | _ + 12, h => absurd h (by omega)
theorem fstand_runs (W : World) (hL : laidMetH Tryz.prog Rows.lanesFloatsStandRow.laid W) {x t1 l1 m1 t2 l2 m2 t3 l3 m3 y : Int} {n1 n2 n3 : Bool} (h : Rng x t1 l1 m1 t2 l2 m2 t3 l3 m3 y) :
    Calls Tryz.prog 8 (valA x t1 l1 m1 t2 l2 m2 t3 l3 m3 y n1 n2 n3) W (fun e W' => e = .returned (.bool true) ∧ Below W.heap.size W W') := by
  obtain ⟨j, hj, hk⟩ := keyL_holds (E := EF (lawVa x t1 l1 m1 t2 l2 m2 t3 l3 m3 y n1 n2 n3)) (len := 12) (by decide)
  exact law_core Tryz.func8 (by kernel_rfl) rfl (sumsFloatsStand_ok _ _ _) (fstand_all j hj) (tab_of hL (by kernel_rfl) (by simp [Rows.lanesFloatsStandRow])) (fun p hp => by rw [List.mem_singleton.1 hp]; exact hk) (fun s hs => by cases hs) h

end Sx
end Go.Proofs.YtfdggebddcoeeaaGreatDoor
end
