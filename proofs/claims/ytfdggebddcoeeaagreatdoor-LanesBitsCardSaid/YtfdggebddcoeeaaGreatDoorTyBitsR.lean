/-
  LanesBits: the run at any arguments.
-/
import Derived.Test.YtfdggebddcoeeaaGreatDoorTyBits1
import Derived.Test.YtfdggebddcoeeaaGreatDoorTyBits2
import Derived.Test.YtfdggebddcoeeaaGreatDoorTyBits3
set_option linter.unusedVariables false
set_option linter.unusedSimpArgs false
set_option maxRecDepth 100000
noncomputable section
namespace Go.Proofs.YtfdggebddcoeeaaGreatDoor
namespace Sx
open Go Go.RowKit

theorem bits_all : ∀ j, j < 15 → ∀ va, CaseM sumsBits 19 15 j va
  | 0, _ => case_two bits0
  | 1, _ => case_two bits1
  | 2, _ => case_two bits2
  | 3, _ => case_two bits3
  | 4, _ => case_two bits4
  | 5, _ => case_two bits5
  | 6, _ => case_any bits6
  | 7, _ => case_all bits7
  | 8, _ => case_mask (by decide) (by decide) bits8
  | 9, _ => case_all bits9
  | 10, _ => case_mask (by decide) (by decide) bits10
  | 11, _ => case_all bits11
  | 12, _ => case_mask (by decide) (by decide) bits12
  | 13, _ => case_all bits13
  | 14, _ => case_mask (by decide) (by decide) bits14
  | _ + 15, h => absurd h (by omega)
theorem bits_runs (W : World) (hL : laidMetH Tryz.prog Rows.lanesBitsRow.laid W) {x t1 l1 m1 t2 l2 m2 t3 l3 m3 y : Int} {n1 n2 n3 : Bool} (h : Rng x t1 l1 m1 t2 l2 m2 t3 l3 m3 y) :
    Calls Tryz.prog 19 (valA x t1 l1 m1 t2 l2 m2 t3 l3 m3 y n1 n2 n3) W (fun e W' => e = .returned (.bool true) ∧ Below W.heap.size W W') :=
  law_casesM Tryz.func19 (by kernel_rfl) sumsBits_ok (by decide) bits_all (tab_of hL (by kernel_rfl) (by simp [Rows.lanesBitsRow])) h

end Sx
end Go.Proofs.YtfdggebddcoeeaaGreatDoor
end
