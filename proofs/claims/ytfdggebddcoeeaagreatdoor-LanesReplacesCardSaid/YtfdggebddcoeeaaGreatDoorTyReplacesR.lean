/-
  LanesReplaces: all cases.
-/
import Derived.Test.YtfdggebddcoeeaaGreatDoorTyReplaces1
import Derived.Test.YtfdggebddcoeeaaGreatDoorTyReplaces2
import Derived.Test.YtfdggebddcoeeaaGreatDoorTyReplaces3
import Derived.Test.YtfdggebddcoeeaaGreatDoorTyReplaces4
set_option linter.unusedVariables false
set_option linter.unusedSimpArgs false
set_option maxRecDepth 100000
noncomputable section
namespace Go.Proofs.YtfdggebddcoeeaaGreatDoor
namespace Sx
open Go Go.RowKit

theorem rep_all : ∀ k, k < 4 → ∀ a, a < 2 ^ (4 - k) → yes (call Tryz.prog (Gt (repK k a)) sumsA 60 3 repArgs .lf 0) = true
  | 0, _, 0, _ => rep0_0
  | 0, _, 1, _ => rep0_1
  | 0, _, 2, _ => rep0_2
  | 0, _, 3, _ => rep0_3
  | 0, _, 4, _ => rep0_4
  | 0, _, 5, _ => rep0_5
  | 0, _, 6, _ => rep0_6
  | 0, _, 7, _ => rep0_7
  | 0, _, 8, _ => rep0_8
  | 0, _, 9, _ => rep0_9
  | 0, _, 10, _ => rep0_10
  | 0, _, 11, _ => rep0_11
  | 0, _, 12, _ => rep0_12
  | 0, _, 13, _ => rep0_13
  | 0, _, 14, _ => rep0_14
  | 0, _, 15, _ => rep0_15
  | 0, _, _ + 16, h => absurd h (by simp)
  | 1, _, 0, _ => rep1_0
  | 1, _, 1, _ => rep1_1
  | 1, _, 2, _ => rep1_2
  | 1, _, 3, _ => rep1_3
  | 1, _, 4, _ => rep1_4
  | 1, _, 5, _ => rep1_5
  | 1, _, 6, _ => rep1_6
  | 1, _, 7, _ => rep1_7
  | 1, _, _ + 8, h => absurd h (by simp)
  | 2, _, 0, _ => rep2_0
  | 2, _, 1, _ => rep2_1
  | 2, _, 2, _ => rep2_2
  | 2, _, 3, _ => rep2_3
  | 2, _, _ + 4, h => absurd h (by simp)
  | 3, _, 0, _ => rep3_0
  | 3, _, 1, _ => rep3_1
  | 3, _, _ + 2, h => absurd h (by simp)
  | _ + 4, h, _, _ => absurd h (by omega)

end Sx
end Go.Proofs.YtfdggebddcoeeaaGreatDoor
end
