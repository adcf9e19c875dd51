/-
  LanesChooses: the run at any arguments.
-/
import Derived.Test.YtfdggebddcoeeaaGreatDoorTyChooses1
import Derived.Test.YtfdggebddcoeeaaGreatDoorTyChooses2
import Derived.Test.YtfdggebddcoeeaaGreatDoorTyChooses3
import Derived.Test.YtfdggebddcoeeaaGreatDoorTyChooses4
import Derived.Test.YtfdggebddcoeeaaGreatDoorTyChooses5
import Derived.Test.YtfdggebddcoeeaaGreatDoorTyChooses6
import Derived.Test.YtfdggebddcoeeaaGreatDoorTyChooses7
import Derived.Test.YtfdggebddcoeeaaGreatDoorTyChooses8
import Derived.Test.YtfdggebddcoeeaaGreatDoorTyChooses9
import Derived.Test.YtfdggebddcoeeaaGreatDoorTyChooses10
import Derived.Test.YtfdggebddcoeeaaGreatDoorTyChooses11
set_option linter.unusedVariables false
set_option linter.unusedSimpArgs false
set_option maxRecDepth 100000
noncomputable section
namespace Go.Proofs.YtfdggebddcoeeaaGreatDoor
namespace Sx
open Go Go.RowKit

theorem chooses_sh : ∀ s, s < 32 → yes (call Tryz.prog (Gu (keyL 22 0 :: shufK s 16) []) sumsChooses 60 18 lawArgs .lf 0) = true
  | 0, _ => chooses0_0
  | 1, _ => chooses0_1
  | 2, _ => chooses0_2
  | 3, _ => chooses0_3
  | 4, _ => chooses0_4
  | 5, _ => chooses0_5
  | 6, _ => chooses0_6
  | 7, _ => chooses0_7
  | 8, _ => chooses0_8
  | 9, _ => chooses0_9
  | 10, _ => chooses0_10
  | 11, _ => chooses0_11
  | 12, _ => chooses0_12
  | 13, _ => chooses0_13
  | 14, _ => chooses0_14
  | 15, _ => chooses0_15
  | 16, _ => chooses0_16
  | 17, _ => chooses0_17
  | 18, _ => chooses0_18
  | 19, _ => chooses0_19
  | 20, _ => chooses0_20
  | 21, _ => chooses0_21
  | 22, _ => chooses0_22
  | 23, _ => chooses0_23
  | 24, _ => chooses0_24
  | 25, _ => chooses0_25
  | 26, _ => chooses0_26
  | 27, _ => chooses0_27
  | 28, _ => chooses0_28
  | 29, _ => chooses0_29
  | 30, _ => chooses0_30
  | 31, _ => chooses0_31
  | _ + 32, h => absurd h (by omega)
theorem chooses_l8 : ∀ s, s < 16 → yes (call Tryz.prog (Gu (keyL 22 8 :: laneK 16 s) []) sumsChooses 60 18 lawArgs .lf 0) = true
  | 0, _ => chooses8_0
  | 1, _ => chooses8_1
  | 2, _ => chooses8_2
  | 3, _ => chooses8_3
  | 4, _ => chooses8_4
  | 5, _ => chooses8_5
  | 6, _ => chooses8_6
  | 7, _ => chooses8_7
  | 8, _ => chooses8_8
  | 9, _ => chooses8_9
  | 10, _ => chooses8_10
  | 11, _ => chooses8_11
  | 12, _ => chooses8_12
  | 13, _ => chooses8_13
  | 14, _ => chooses8_14
  | 15, _ => chooses8_15
  | _ + 16, h => absurd h (by omega)
theorem chooses_l9 : ∀ s, s < 16 → yes (call Tryz.prog (Gu (keyL 22 9 :: laneK 16 s) []) sumsChooses 60 18 lawArgs .lf 0) = true
  | 0, _ => chooses9_0
  | 1, _ => chooses9_1
  | 2, _ => chooses9_2
  | 3, _ => chooses9_3
  | 4, _ => chooses9_4
  | 5, _ => chooses9_5
  | 6, _ => chooses9_6
  | 7, _ => chooses9_7
  | 8, _ => chooses9_8
  | 9, _ => chooses9_9
  | 10, _ => chooses9_10
  | 11, _ => chooses9_11
  | 12, _ => chooses9_12
  | 13, _ => chooses9_13
  | 14, _ => chooses9_14
  | 15, _ => chooses9_15
  | _ + 16, h => absurd h (by omega)
theorem chooses_l10 : ∀ s, s < 16 → yes (call Tryz.prog (Gu (keyL 22 10 :: laneK 16 s) []) sumsChooses 60 18 lawArgs .lf 0) = true
  | 0, _ => chooses10_0
  | 1, _ => chooses10_1
  | 2, _ => chooses10_2
  | 3, _ => chooses10_3
  | 4, _ => chooses10_4
  | 5, _ => chooses10_5
  | 6, _ => chooses10_6
  | 7, _ => chooses10_7
  | 8, _ => chooses10_8
  | 9, _ => chooses10_9
  | 10, _ => chooses10_10
  | 11, _ => chooses10_11
  | 12, _ => chooses10_12
  | 13, _ => chooses10_13
  | 14, _ => chooses10_14
  | 15, _ => chooses10_15
  | _ + 16, h => absurd h (by omega)
theorem chooses_l11 : ∀ s, s < 8 → yes (call Tryz.prog (Gu (keyL 22 11 :: laneK 8 s) []) sumsChooses 60 18 lawArgs .lf 0) = true
  | 0, _ => chooses11_0
  | 1, _ => chooses11_1
  | 2, _ => chooses11_2
  | 3, _ => chooses11_3
  | 4, _ => chooses11_4
  | 5, _ => chooses11_5
  | 6, _ => chooses11_6
  | 7, _ => chooses11_7
  | _ + 8, h => absurd h (by omega)
theorem chooses_l12 : ∀ s, s < 8 → yes (call Tryz.prog (Gu (keyL 22 12 :: laneK 8 s) []) sumsChooses 60 18 lawArgs .lf 0) = true
  | 0, _ => chooses12_0
  | 1, _ => chooses12_1
  | 2, _ => chooses12_2
  | 3, _ => chooses12_3
  | 4, _ => chooses12_4
  | 5, _ => chooses12_5
  | 6, _ => chooses12_6
  | 7, _ => chooses12_7
  | _ + 8, h => absurd h (by omega)
theorem chooses_l13 : ∀ s, s < 8 → yes (call Tryz.prog (Gu (keyL 22 13 :: laneK 8 s) []) sumsChooses 60 18 lawArgs .lf 0) = true
  | 0, _ => chooses13_0
  | 1, _ => chooses13_1
  | 2, _ => chooses13_2
  | 3, _ => chooses13_3
  | 4, _ => chooses13_4
  | 5, _ => chooses13_5
  | 6, _ => chooses13_6
  | 7, _ => chooses13_7
  | _ + 8, h => absurd h (by omega)
theorem chooses_l14 : ∀ s, s < 4 → yes (call Tryz.prog (Gu (keyL 22 14 :: laneK 4 s) []) sumsChooses 60 18 lawArgs .lf 0) = true
  | 0, _ => chooses14_0
  | 1, _ => chooses14_1
  | 2, _ => chooses14_2
  | 3, _ => chooses14_3
  | _ + 4, h => absurd h (by omega)
theorem chooses_l15 : ∀ s, s < 4 → yes (call Tryz.prog (Gu (keyL 22 15 :: laneK 4 s) []) sumsChooses 60 18 lawArgs .lf 0) = true
  | 0, _ => chooses15_0
  | 1, _ => chooses15_1
  | 2, _ => chooses15_2
  | 3, _ => chooses15_3
  | _ + 4, h => absurd h (by omega)
theorem chooses_l16 : ∀ s, s < 2 → yes (call Tryz.prog (Gu (keyL 22 16 :: laneK 2 s) []) sumsChooses 60 18 lawArgs .lf 0) = true
  | 0, _ => chooses16_0
  | 1, _ => chooses16_1
  | _ + 2, h => absurd h (by omega)
theorem chooses_l17 : ∀ s, s < 2 → yes (call Tryz.prog (Gu (keyL 22 17 :: laneK 2 s) []) sumsChooses 60 18 lawArgs .lf 0) = true
  | 0, _ => chooses17_0
  | 1, _ => chooses17_1
  | _ + 2, h => absurd h (by omega)
theorem chooses_l18 : ∀ s, s < 4 → yes (call Tryz.prog (Gu (keyL 22 18 :: laneK 4 s) []) sumsChooses 60 18 lawArgs .lf 0) = true
  | 0, _ => chooses18_0
  | 1, _ => chooses18_1
  | 2, _ => chooses18_2
  | 3, _ => chooses18_3
  | _ + 4, h => absurd h (by omega)
theorem chooses_l19 : ∀ s, s < 4 → yes (call Tryz.prog (Gu (keyL 22 19 :: laneK 4 s) []) sumsChooses 60 18 lawArgs .lf 0) = true
  | 0, _ => chooses19_0
  | 1, _ => chooses19_1
  | 2, _ => chooses19_2
  | 3, _ => chooses19_3
  | _ + 4, h => absurd h (by omega)
theorem chooses_l20 : ∀ s, s < 2 → yes (call Tryz.prog (Gu (keyL 22 20 :: laneK 2 s) []) sumsChooses 60 18 lawArgs .lf 0) = true
  | 0, _ => chooses20_0
  | 1, _ => chooses20_1
  | _ + 2, h => absurd h (by omega)
theorem chooses_l21 : ∀ s, s < 2 → yes (call Tryz.prog (Gu (keyL 22 21 :: laneK 2 s) []) sumsChooses 60 18 lawArgs .lf 0) = true
  | 0, _ => chooses21_0
  | 1, _ => chooses21_1
  | _ + 2, h => absurd h (by omega)
theorem chooses_all : ∀ j, j < 22 → ∀ va, Case sumsChooses 18 22 j va
  | 0, _ => case_shuffle chooses_sh
  | 1, _ => case_swizzle chooses1
  | 2, _ => case_plain chooses2
  | 3, _ => case_plain chooses3
  | 4, _ => case_plain chooses4
  | 5, _ => case_plain chooses5
  | 6, _ => case_plain chooses6
  | 7, _ => case_plain chooses7
  | 8, _ => case_lane (by decide) chooses_l8
  | 9, _ => case_lane (by decide) chooses_l9
  | 10, _ => case_lane (by decide) chooses_l10
  | 11, _ => case_lane (by decide) chooses_l11
  | 12, _ => case_lane (by decide) chooses_l12
  | 13, _ => case_lane (by decide) chooses_l13
  | 14, _ => case_lane (by decide) chooses_l14
  | 15, _ => case_lane (by decide) chooses_l15
  | 16, _ => case_lane (by decide) chooses_l16
  | 17, _ => case_lane (by decide) chooses_l17
  | 18, _ => case_lane (by decide) chooses_l18
  | 19, _ => case_lane (by decide) chooses_l19
  | 20, _ => case_lane (by decide) chooses_l20
  | 21, _ => case_lane (by decide) chooses_l21
  | _ + 22, h => absurd h (by omega)
theorem chooses_runs (W : World) (hL : laidMetH Tryz.prog Rows.lanesChoosesRow.laid W) {x t1 l1 m1 t2 l2 m2 t3 l3 m3 y : Int} {n1 n2 n3 : Bool} (h : Rng x t1 l1 m1 t2 l2 m2 t3 l3 m3 y) :
    Calls Tryz.prog 18 (valA x t1 l1 m1 t2 l2 m2 t3 l3 m3 y n1 n2 n3) W (fun e W' => e = .returned (.bool true) ∧ Below W.heap.size W W') :=
  law_cases Tryz.func18 (by kernel_rfl) sumsChooses_ok (by decide) chooses_all (tab_of hL (by kernel_rfl) (by simp [Rows.lanesChoosesRow])) h

end Sx
end Go.Proofs.YtfdggebddcoeeaaGreatDoor
end
