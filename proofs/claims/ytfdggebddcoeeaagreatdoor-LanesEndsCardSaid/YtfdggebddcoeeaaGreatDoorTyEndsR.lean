/-
  LanesEnds: the run at any arguments.
-/
import Derived.Test.YtfdggebddcoeeaaGreatDoorTyEnds1
import Derived.Test.YtfdggebddcoeeaaGreatDoorTyEnds2
set_option linter.unusedVariables false
set_option linter.unusedSimpArgs false
set_option maxRecDepth 100000
noncomputable section
namespace Go.Proofs.YtfdggebddcoeeaaGreatDoor
namespace Sx
open Go Go.RowKit

theorem ends_all : ∀ j, j < 14 → yes (call Tryz.prog (Gt [keyL 14 j]) sumsEnds 60 10 lawArgs .lf 0) = true
  | 0, _ => ends0
  | 1, _ => ends1
  | 2, _ => ends2
  | 3, _ => ends3
  | 4, _ => ends4
  | 5, _ => ends5
  | 6, _ => ends6
  | 7, _ => ends7
  | 8, _ => ends8
  | 9, _ => ends9
  | 10, _ => ends10
  | 11, _ => ends11
  | 12, _ => ends12
  | 13, _ => ends13
  | _ + 14, h => absurd h (by omega)
theorem ends_runs (W : World) (hL : laidMetH Tryz.prog Rows.lanesEndsRow.laid W) {x t1 l1 m1 t2 l2 m2 t3 l3 m3 y : Int} {n1 n2 n3 : Bool} (h : Rng x t1 l1 m1 t2 l2 m2 t3 l3 m3 y) :
    Calls Tryz.prog 10 (valA x t1 l1 m1 t2 l2 m2 t3 l3 m3 y n1 n2 n3) W (fun e W' => e = .returned (.bool true) ∧ Below W.heap.size W W') :=
  law_runs Tryz.func10 (by kernel_rfl) sumsEnds_ok (by decide) ends_all (tab_of hL (by kernel_rfl) (by simp [Rows.lanesEndsRow])) h

end Sx
end Go.Proofs.YtfdggebddcoeeaaGreatDoor
end
