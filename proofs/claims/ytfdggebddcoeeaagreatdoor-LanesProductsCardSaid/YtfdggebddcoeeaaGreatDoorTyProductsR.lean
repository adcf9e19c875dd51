/-
  LanesProducts: the run at any arguments.
-/
import Derived.Test.YtfdggebddcoeeaaGreatDoorTyProducts1
import Derived.Test.YtfdggebddcoeeaaGreatDoorTyProducts2
set_option linter.unusedVariables false
set_option linter.unusedSimpArgs false
set_option maxRecDepth 100000
noncomputable section
namespace Go.Proofs.YtfdggebddcoeeaaGreatDoor
namespace Sx
open Go Go.RowKit

theorem products_all : ∀ j, j < 13 → yes (call Tryz.prog (Gt [keyL 13 j]) sumsProducts 60 16 lawArgs .lf 0) = true
  | 0, _ => products0
  | 1, _ => products1
  | 2, _ => products2
  | 3, _ => products3
  | 4, _ => products4
  | 5, _ => products5
  | 6, _ => products6
  | 7, _ => products7
  | 8, _ => products8
  | 9, _ => products9
  | 10, _ => products10
  | 11, _ => products11
  | 12, _ => products12
  | _ + 13, h => absurd h (by omega)
theorem products_runs (W : World) (hL : laidMetH Tryz.prog Rows.lanesProductsRow.laid W) {x t1 l1 m1 t2 l2 m2 t3 l3 m3 y : Int} {n1 n2 n3 : Bool} (h : Rng x t1 l1 m1 t2 l2 m2 t3 l3 m3 y) :
    Calls Tryz.prog 16 (valA x t1 l1 m1 t2 l2 m2 t3 l3 m3 y n1 n2 n3) W (fun e W' => e = .returned (.bool true) ∧ Below W.heap.size W W') :=
  law_runs Tryz.func16 (by kernel_rfl) sumsProducts_ok (by decide) products_all (tab_of hL (by kernel_rfl) (by simp [Rows.lanesProductsRow])) h

end Sx
end Go.Proofs.YtfdggebddcoeeaaGreatDoor
end
