/-
  LanesWidens: the run at any arguments.
-/
import Derived.Test.YtfdggebddcoeeaaGreatDoorTyWidens1
import Derived.Test.YtfdggebddcoeeaaGreatDoorTyWidens2
set_option linter.unusedVariables false
set_option linter.unusedSimpArgs false
set_option maxRecDepth 100000
noncomputable section
namespace Go.Proofs.YtfdggebddcoeeaaGreatDoor
namespace Sx
open Go Go.RowKit

theorem widens_all : ∀ j, j < 16 → yes (call Tryz.prog (Gt [keyL 16 j]) sumsWidens 60 15 lawArgs .lf 0) = true
  | 0, _ => widens0
  | 1, _ => widens1
  | 2, _ => widens2
  | 3, _ => widens3
  | 4, _ => widens4
  | 5, _ => widens5
  | 6, _ => widens6
  | 7, _ => widens7
  | 8, _ => widens8
  | 9, _ => widens9
  | 10, _ => widens10
  | 11, _ => widens11
  | 12, _ => widens12
  | 13, _ => widens13
  | 14, _ => widens14
  | 15, _ => widens15
  | _ + 16, h => absurd h (by omega)
theorem widens_runs (W : World) (hL : laidMetH Tryz.prog Rows.lanesWidensRow.laid W) {x t1 l1 m1 t2 l2 m2 t3 l3 m3 y : Int} {n1 n2 n3 : Bool} (h : Rng x t1 l1 m1 t2 l2 m2 t3 l3 m3 y) :
    Calls Tryz.prog 15 (valA x t1 l1 m1 t2 l2 m2 t3 l3 m3 y n1 n2 n3) W (fun e W' => e = .returned (.bool true) ∧ Below W.heap.size W W') :=
  law_runs Tryz.func15 (by kernel_rfl) sumsWidens_ok (by decide) widens_all (tab_of hL (by kernel_rfl) (by simp [Rows.lanesWidensRow])) h

end Sx
end Go.Proofs.YtfdggebddcoeeaaGreatDoor
end
