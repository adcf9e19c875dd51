/-
  LanesChooses: runs.
-/
import Derived.Test.YtfdggebddcoeeaaGreatDoorTyChoosesA
set_option linter.unusedVariables false
set_option linter.unusedSimpArgs false
set_option maxRecDepth 100000
noncomputable section
namespace Go.Proofs.YtfdggebddcoeeaaGreatDoor
namespace Sx
open Go Go.RowKit

theorem chooses2 : yes (call Tryz.prog (Gu ([keyL 22 2]) []) sumsChooses 60 18 lawArgs .lf 0) = true := by kernel_rfl
theorem chooses3 : yes (call Tryz.prog (Gu ([keyL 22 3]) []) sumsChooses 60 18 lawArgs .lf 0) = true := by kernel_rfl
theorem chooses4 : yes (call Tryz.prog (Gu ([keyL 22 4]) []) sumsChooses 60 18 lawArgs .lf 0) = true := by kernel_rfl
theorem chooses5 : yes (call Tryz.prog (Gu ([keyL 22 5]) []) sumsChooses 60 18 lawArgs .lf 0) = true := by kernel_rfl
theorem chooses6 : yes (call Tryz.prog (Gu ([keyL 22 6]) []) sumsChooses 60 18 lawArgs .lf 0) = true := by kernel_rfl
theorem chooses7 : yes (call Tryz.prog (Gu ([keyL 22 7]) []) sumsChooses 60 18 lawArgs .lf 0) = true := by kernel_rfl
theorem chooses1 : yes (call Tryz.prog (Gu ([keyL 22 1]) (swSpl 16)) sumsChooses 60 18 lawArgs .lf 0) = true := by kernel_rfl

end Sx
end Go.Proofs.YtfdggebddcoeeaaGreatDoor
end
