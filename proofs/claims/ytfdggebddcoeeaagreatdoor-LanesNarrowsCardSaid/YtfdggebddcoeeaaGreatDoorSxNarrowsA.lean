/-
  LanesNarrows: the summaries of its leaf functions.
-/
import Derived.Test.YtfdggebddcoeeaaGreatDoorSxLw
set_option linter.unusedVariables false
set_option linter.unusedSimpArgs false
set_option maxRecDepth 100000
noncomputable section
namespace Go.Proofs.YtfdggebddcoeeaaGreatDoor
namespace Sx
open Go Go.RowKit

def sumsNarrows : Tr Sm := sumsA
theorem sumsNarrows_ok (va : Nat → Int) (keys : List (SE × SE)) : SumsOk (EE va) Tryz.prog (Gt keys) sumsNarrows := sumsA_ok

end Sx
end Go.Proofs.YtfdggebddcoeeaaGreatDoor
end
