/-
  LanesMoves: the run at any arguments.
-/
import Derived.Test.YtfdggebddcoeeaaGreatDoorTyMoves1
import Derived.Test.YtfdggebddcoeeaaGreatDoorTyMoves2
set_option linter.unusedVariables false
set_option linter.unusedSimpArgs false
set_option maxRecDepth 100000
noncomputable section
namespace Go.Proofs.YtfdggebddcoeeaaGreatDoor
namespace Sx
open Go Go.RowKit

theorem moves_all : ∀ j, j < 12 → yes (call Tryz.prog (Gt [keyL 12 j]) sumsMoves 60 6 lawArgs .lf 0) = true
  | 0, _ => moves0
  | 1, _ => moves1
  | 2, _ => moves2
  | 3, _ => moves3
  | 4, _ => moves4
  | 5, _ => moves5
  | 6, _ => moves6
  | 7, _ => moves7
  | 8, _ => moves8
  | 9, _ => moves9
  | 10, _ => moves10
  | 11, _ => moves11
  | _ + 12, h => absurd h (by omega)
theorem moves_runs (W : World) (hL : laidMetH Tryz.prog Rows.lanesMovesRow.laid W) {x t1 l1 m1 t2 l2 m2 t3 l3 m3 y : Int} {n1 n2 n3 : Bool} (h : Rng x t1 l1 m1 t2 l2 m2 t3 l3 m3 y) :
    Calls Tryz.prog 6 (valA x t1 l1 m1 t2 l2 m2 t3 l3 m3 y n1 n2 n3) W (fun e W' => e = .returned (.bool true) ∧ Below W.heap.size W W') :=
  law_runs Tryz.func6 (by kernel_rfl) sumsMoves_ok (by decide) moves_all (tab_of hL (by kernel_rfl) (by simp [Rows.lanesMovesRow])) h

end Sx
end Go.Proofs.YtfdggebddcoeeaaGreatDoor
end
