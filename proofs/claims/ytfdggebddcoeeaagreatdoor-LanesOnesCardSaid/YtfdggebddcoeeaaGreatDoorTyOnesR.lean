/-
  LanesOnes: the run at any arguments.
-/
import Derived.Test.YtfdggebddcoeeaaGreatDoorTyOnes1
set_option linter.unusedVariables false
set_option linter.unusedSimpArgs false
set_option maxRecDepth 100000
noncomputable section
namespace Go.Proofs.YtfdggebddcoeeaaGreatDoor
namespace Sx
open Go Go.RowKit

theorem ones_all : ∀ j, j < 9 → yes (call Tryz.prog (Gt [keyL 9 j]) sumsOnes 60 11 lawArgs .lf 0) = true
  | 0, _ => ones0
  | 1, _ => ones1
  | 2, _ => ones2
  | 3, _ => ones3
  | 4, _ => ones4
  | 5, _ => ones5
  | 6, _ => ones6
  | 7, _ => ones7
  | 8, _ => ones8
  | _ + 9, h => absurd h (by omega)
theorem ones_runs (W : World) (hL : laidMetH Tryz.prog Rows.lanesOnesRow.laid W) {x t1 l1 m1 t2 l2 m2 t3 l3 m3 y : Int} {n1 n2 n3 : Bool} (h : Rng x t1 l1 m1 t2 l2 m2 t3 l3 m3 y) :
    Calls Tryz.prog 11 (valA x t1 l1 m1 t2 l2 m2 t3 l3 m3 y n1 n2 n3) W (fun e W' => e = .returned (.bool true) ∧ Below W.heap.size W W') :=
  law_runs Tryz.func11 (by kernel_rfl) sumsOnes_ok (by decide) ones_all (tab_of hL (by kernel_rfl) (by simp [Rows.lanesOnesRow])) h

end Sx
end Go.Proofs.YtfdggebddcoeeaaGreatDoor
end
