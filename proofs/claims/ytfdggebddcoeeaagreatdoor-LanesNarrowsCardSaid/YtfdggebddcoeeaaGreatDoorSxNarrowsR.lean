/-
  LanesNarrows: the run at any arguments.
-/
import Derived.Test.YtfdggebddcoeeaaGreatDoorSxNarrows1
set_option linter.unusedVariables false
set_option linter.unusedSimpArgs false
set_option maxRecDepth 100000
noncomputable section
namespace Go.Proofs.YtfdggebddcoeeaaGreatDoor
namespace Sx
open Go Go.RowKit

theorem narrows_all : ∀ j, j < 4 → yes (call Tryz.prog (Gt [keyL 4 j]) sumsNarrows 60 14 lawArgs .lf 0) = true
  | 0, _ => narrows0
  | 1, _ => narrows1
  | 2, _ => narrows2
  | 3, _ => narrows3
  | _ + 4, h => absurd h (by omega)
theorem narrows_runs (W : World) (hL : laidMetH Tryz.prog Rows.lanesNarrowsRow.laid W) {x t1 l1 m1 t2 l2 m2 t3 l3 m3 y : Int} {n1 n2 n3 : Bool} (h : Rng x t1 l1 m1 t2 l2 m2 t3 l3 m3 y) :
    Calls Tryz.prog 14 (valA x t1 l1 m1 t2 l2 m2 t3 l3 m3 y n1 n2 n3) W (fun e W' => e = .returned (.bool true) ∧ Below W.heap.size W W') :=
  law_runs Tryz.func14 (by kernel_rfl) sumsNarrows_ok (by decide) narrows_all (tab_of hL (by kernel_rfl) (by simp [Rows.lanesNarrowsRow])) h

end Sx
end Go.Proofs.YtfdggebddcoeeaaGreatDoor
end
