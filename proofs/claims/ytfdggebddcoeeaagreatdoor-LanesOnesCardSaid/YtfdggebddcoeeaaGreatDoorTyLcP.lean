/-
  Leaf functions of whole numbers: moves, by each number of places; bits of a byte; how many bits.
-/
import Derived.Test.YtfdggebddcoeeaaGreatDoorTyLf
set_option linter.unusedVariables false
set_option linter.unusedSimpArgs false
set_option maxRecDepth 100000
noncomputable section
namespace Go.Proofs.YtfdggebddcoeeaaGreatDoor
namespace Sx
open Go Go.RowKit

theorem pc0 : allN (fun k => agreeN 8 (run0 (keyC (0 + k)) 118 (args1 8 3)) (run0 (keyC (0 + k)) 97 (args1 8 3))) 64 = true := by kernel_rfl
theorem pc64 : allN (fun k => agreeN 8 (run0 (keyC (64 + k)) 118 (args1 8 3)) (run0 (keyC (64 + k)) 97 (args1 8 3))) 64 = true := by kernel_rfl
theorem pc128 : allN (fun k => agreeN 8 (run0 (keyC (128 + k)) 118 (args1 8 3)) (run0 (keyC (128 + k)) 97 (args1 8 3))) 64 = true := by kernel_rfl
theorem pc192 : allN (fun k => agreeN 8 (run0 (keyC (192 + k)) 118 (args1 8 3)) (run0 (keyC (192 + k)) 97 (args1 8 3))) 64 = true := by kernel_rfl
theorem un8_3 : LeafU 118 8 3 ∧ LeafU 97 8 3 := leafU_keyed (by decide) rfl fun k hk => by
  by_cases h0 : k < 64
  · obtain ⟨j, rfl⟩ : ∃ j, k = 0 + j := ⟨k - 0, by omega⟩
    exact allN_ok pc0 j (by omega)
  by_cases h64 : k < 128
  · obtain ⟨j, rfl⟩ : ∃ j, k = 64 + j := ⟨k - 64, by omega⟩
    exact allN_ok pc64 j (by omega)
  by_cases h128 : k < 192
  · obtain ⟨j, rfl⟩ : ∃ j, k = 128 + j := ⟨k - 128, by omega⟩
    exact allN_ok pc128 j (by omega)
  obtain ⟨j, rfl⟩ : ∃ j, k = 192 + j := ⟨k - 192, by omega⟩
  exact allN_ok pc192 j (by omega)

end Sx
end Go.Proofs.YtfdggebddcoeeaaGreatDoor
end
