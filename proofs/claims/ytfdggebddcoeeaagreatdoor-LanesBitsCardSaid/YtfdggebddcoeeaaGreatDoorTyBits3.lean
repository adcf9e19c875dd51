/-
  LanesBits: runs.
-/
import Derived.Test.YtfdggebddcoeeaaGreatDoorTyBitsA
set_option linter.unusedVariables false
set_option linter.unusedSimpArgs false
set_option maxRecDepth 100000
noncomputable section
namespace Go.Proofs.YtfdggebddcoeeaaGreatDoor
namespace Sx
open Go Go.RowKit

theorem bits6 : isE (boolE (call Tryz.prog (Gu ([keyL 15 6]) []) sumsBits 60 19 lawArgsM .lf 0)) (anyE (.md (.var 2) 64) (.md (.var 3) 64) (lanesE 8).reverse) = true := by kernel_rfl
theorem bits7 : isE (boolE (call Tryz.prog (Gu ([keyL 15 7]) []) sumsBits 60 19 lawArgsM .lf 0)) (allE (lanesE 8)) = true := by kernel_rfl
theorem bits8 : isE (boolE (call Tryz.prog (Gu (keyL 15 8 :: signsK 8 (lanesE 8)) []) sumsBits 60 19 lawArgsM .lf 0)) (maskE 8 (lanesE 8)) = true := by kernel_rfl
theorem bits9 : isE (boolE (call Tryz.prog (Gu ([keyL 15 9]) []) sumsBits 60 19 lawArgsM .lf 0)) (allE (lanesE 16)) = true := by kernel_rfl
theorem bits10 : isE (boolE (call Tryz.prog (Gu (keyL 15 10 :: signsK 16 (lanesE 16)) []) sumsBits 60 19 lawArgsM .lf 0)) (maskE 16 (lanesE 16)) = true := by kernel_rfl
theorem bits11 : isE (boolE (call Tryz.prog (Gu ([keyL 15 11]) []) sumsBits 60 19 lawArgsM .lf 0)) (allE (lanesE 32)) = true := by kernel_rfl
theorem bits12 : isE (boolE (call Tryz.prog (Gu (keyL 15 12 :: signsK 32 (lanesE 32)) []) sumsBits 60 19 lawArgsM .lf 0)) (maskE 32 (lanesE 32)) = true := by kernel_rfl
theorem bits13 : isE (boolE (call Tryz.prog (Gu ([keyL 15 13]) []) sumsBits 60 19 lawArgsM .lf 0)) (allE (lanesE 64)) = true := by kernel_rfl
theorem bits14 : isE (boolE (call Tryz.prog (Gu (keyL 15 14 :: signsK 64 (lanesE 64)) []) sumsBits 60 19 lawArgsM .lf 0)) (maskE 64 (lanesE 64)) = true := by kernel_rfl

end Sx
end Go.Proofs.YtfdggebddcoeeaaGreatDoor
end
