/-
  The closed facts of the program that every row asks, each by itself.
-/
import Derived.Test.YtfdggebddcoeeaaGreatDoorFbPart3
set_option linter.unusedVariables false
set_option linter.unusedSimpArgs false
set_option maxRecDepth 100000
namespace Go.Proofs.YtfdggebddcoeeaaGreatDoor
namespace Sx
open Go
theorem pj1 : (laidOutB Tryz.prog) = true := by kernel_rfl
theorem pj2 : (mapsRowed Tryz.prog) = true := by kernel_rfl
theorem pj6 : ((Tryz.prog.stops == [])) = true := by kernel_rfl
theorem pj8 : ((Tryz.prog.stopKnobs == [])) = true := by kernel_rfl
theorem pj22 : ((Rows.lanesMovesRow.plainKeys == Tryz.prog.plainKeys)) = true := by kernel_rfl
theorem pj24 : (Tryz.prog.stopsHeard) = true := by kernel_rfl
theorem pj25 : (Tryz.prog.mayEnter) = true := by kernel_rfl
theorem pj26 : ((Rows.lanesMovesRow.lifted == Tryz.prog.liftsFinal)) = true := by kernel_rfl
theorem pj27 : ((Tryz.prog.make == some Rows.lanesMovesRow.make)) = true := by kernel_rfl
theorem pjMain : Tryz.pinned.checked.prog.mainIs = some (true, "641e8e1e7a23bacccd49a5a15820cb3250e8656668c7ad00f2a59b1c4164e87e".toList) := by kernel_rfl
theorem pjLooks : false = Tryz.prog.looks [] := by kernel_rfl
end Sx
end Go.Proofs.YtfdggebddcoeeaaGreatDoor
