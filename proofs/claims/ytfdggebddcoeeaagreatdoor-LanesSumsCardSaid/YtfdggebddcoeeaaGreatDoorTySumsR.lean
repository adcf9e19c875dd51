/-
  LanesSums: the run at any arguments.
-/
import Derived.Test.YtfdggebddcoeeaaGreatDoorTySums1
import Derived.Test.YtfdggebddcoeeaaGreatDoorTySums2
set_option linter.unusedVariables false
set_option linter.unusedSimpArgs false
set_option maxRecDepth 100000
noncomputable section
namespace Go.Proofs.YtfdggebddcoeeaaGreatDoor
namespace Sx
open Go Go.RowKit

theorem sums_all : ∀ j, j < 20 → yes (call Tryz.prog (Gt [keyL 20 j]) sumsSums 60 9 lawArgs .lf 0) = true
  | 0, _ => lanesSums0
  | 1, _ => lanesSums1
  | 2, _ => lanesSums2
  | 3, _ => lanesSums3
  | 4, _ => lanesSums4
  | 5, _ => lanesSums5
  | 6, _ => lanesSums6
  | 7, _ => lanesSums7
  | 8, _ => lanesSums8
  | 9, _ => lanesSums9
  | 10, _ => lanesSums10
  | 11, _ => lanesSums11
  | 12, _ => lanesSums12
  | 13, _ => lanesSums13
  | 14, _ => lanesSums14
  | 15, _ => lanesSums15
  | 16, _ => lanesSums16
  | 17, _ => lanesSums17
  | 18, _ => lanesSums18
  | 19, _ => lanesSums19
  | _ + 20, h => absurd h (by omega)
theorem sums_runs (W : World) (hL : laidMetH Tryz.prog Rows.lanesSumsRow.laid W) {x t1 l1 m1 t2 l2 m2 t3 l3 m3 y : Int} {n1 n2 n3 : Bool} (h : Rng x t1 l1 m1 t2 l2 m2 t3 l3 m3 y) :
    Calls Tryz.prog 9 (valA x t1 l1 m1 t2 l2 m2 t3 l3 m3 y n1 n2 n3) W (fun e W' => e = .returned (.bool true) ∧ Below W.heap.size W W') :=
  law_runs Tryz.func9 (by kernel_rfl) sumsSums_ok (by decide) sums_all (tab_of hL (by kernel_rfl) (by simp [Rows.lanesSumsRow])) h

end Sx
end Go.Proofs.YtfdggebddcoeeaaGreatDoor
end
