/-
  LanesStand: the run at any arguments.
-/
import Derived.Test.YtfdggebddcoeeaaGreatDoorTyStand1
import Derived.Test.YtfdggebddcoeeaaGreatDoorTyStand2
import Derived.Test.YtfdggebddcoeeaaGreatDoorTyStand3
set_option linter.unusedVariables false
set_option linter.unusedSimpArgs false
set_option maxRecDepth 100000
noncomputable section
namespace Go.Proofs.YtfdggebddcoeeaaGreatDoor
namespace Sx
open Go Go.RowKit

theorem stand_all : ∀ j, j < 36 → yes (call Tryz.prog (Gt [keyL 36 j]) sumsStand 60 7 lawArgs .lf 0) = true
  | 0, _ => stand0
  | 1, _ => stand1
  | 2, _ => stand2
  | 3, _ => stand3
  | 4, _ => stand4
  | 5, _ => stand5
  | 6, _ => stand6
  | 7, _ => stand7
  | 8, _ => stand8
  | 9, _ => stand9
  | 10, _ => stand10
  | 11, _ => stand11
  | 12, _ => stand12
  | 13, _ => stand13
  | 14, _ => stand14
  | 15, _ => stand15
  | 16, _ => stand16
  | 17, _ => stand17
  | 18, _ => stand18
  | 19, _ => stand19
  | 20, _ => stand20
  | 21, _ => stand21
  | 22, _ => stand22
  | 23, _ => stand23
  | 24, _ => stand24
  | 25, _ => stand25
  | 26, _ => stand26
  | 27, _ => stand27
  | 28, _ => stand28
  | 29, _ => stand29
  | 30, _ => stand30
  | 31, _ => stand31
  | 32, _ => stand32
  | 33, _ => stand33
  | 34, _ => stand34
  | 35, _ => stand35
  | _ + 36, h => absurd h (by omega)
theorem stand_runs (W : World) (hL : laidMetH Tryz.prog Rows.lanesStandRow.laid W) {x t1 l1 m1 t2 l2 m2 t3 l3 m3 y : Int} {n1 n2 n3 : Bool} (h : Rng x t1 l1 m1 t2 l2 m2 t3 l3 m3 y) :
    Calls Tryz.prog 7 (valA x t1 l1 m1 t2 l2 m2 t3 l3 m3 y n1 n2 n3) W (fun e W' => e = .returned (.bool true) ∧ Below W.heap.size W W') :=
  law_runs Tryz.func7 (by kernel_rfl) sumsStand_ok (by decide) stand_all (tab_of hL (by kernel_rfl) (by simp [Rows.lanesStandRow])) h

end Sx
end Go.Proofs.YtfdggebddcoeeaaGreatDoor
end
