/-
  LanesChooses: the summaries of its leaf functions.
-/
import Derived.Test.YtfdggebddcoeeaaGreatDoorTyLw
set_option linter.unusedVariables false
set_option linter.unusedSimpArgs false
set_option maxRecDepth 100000
noncomputable section
namespace Go.Proofs.YtfdggebddcoeeaaGreatDoor
namespace Sx
open Go Go.RowKit

def sumsChooses : Tr Sm := sumsA
theorem sumsChooses_ok (va : Nat → Int) (keys : List (SE × SE)) (spl : List (SE × SE × Nat)) : SumsOk (EE va) Tryz.prog (Gu keys spl) sumsChooses := sumsA_ok

end Sx
end Go.Proofs.YtfdggebddcoeeaaGreatDoor
end
