/-
  Leaf functions of whole numbers: moves, by each number of places; bits of a byte; how many bits.
-/
import Derived.Test.YtfdggebddcoeeaaGreatDoorTyLf
set_option linter.unusedVariables false
set_option linter.unusedSimpArgs false
set_option maxRecDepth 100000
noncomputable section
namespace Go.Proofs.YtfdggebddcoeeaaGreatDoor
namespace Sx
open Go Go.RowKit

theorem b32_11_0 : allN (fun k => agreeN 32 (run0 (keyK 32 (0 + k)) 107 (args2 32 11)) (run0 (keyK 32 (0 + k)) 63 (args2 32 11))) 8 = true := by kernel_rfl
theorem b32_11_8 : allN (fun k => agreeN 32 (run0 (keyK 32 (8 + k)) 107 (args2 32 11)) (run0 (keyK 32 (8 + k)) 63 (args2 32 11))) 8 = true := by kernel_rfl
theorem b32_11_16 : allN (fun k => agreeN 32 (run0 (keyK 32 (16 + k)) 107 (args2 32 11)) (run0 (keyK 32 (16 + k)) 63 (args2 32 11))) 8 = true := by kernel_rfl
theorem b32_11_24 : allN (fun k => agreeN 32 (run0 (keyK 32 (24 + k)) 107 (args2 32 11)) (run0 (keyK 32 (24 + k)) 63 (args2 32 11))) 8 = true := by kernel_rfl
theorem bin32_11 : LeafB 107 32 11 ∧ LeafB 63 32 11 := leafB_keyed (by decide) (by decide) (by decide) rfl (by decide) fun k hk => by
  by_cases h0 : k < 8
  · obtain ⟨j, rfl⟩ : ∃ j, k = 0 + j := ⟨k - 0, by omega⟩
    exact allN_ok b32_11_0 j (by omega)
  by_cases h8 : k < 16
  · obtain ⟨j, rfl⟩ : ∃ j, k = 8 + j := ⟨k - 8, by omega⟩
    exact allN_ok b32_11_8 j (by omega)
  by_cases h16 : k < 24
  · obtain ⟨j, rfl⟩ : ∃ j, k = 16 + j := ⟨k - 16, by omega⟩
    exact allN_ok b32_11_16 j (by omega)
  obtain ⟨j, rfl⟩ : ∃ j, k = 24 + j := ⟨k - 24, by omega⟩
  exact allN_ok b32_11_24 j (by omega)
theorem b32_12_0 : allN (fun k => agreeN 32 (run0 (keyK 32 (0 + k)) 107 (args2 32 12)) (run0 (keyK 32 (0 + k)) 63 (args2 32 12))) 8 = true := by kernel_rfl
theorem b32_12_8 : allN (fun k => agreeN 32 (run0 (keyK 32 (8 + k)) 107 (args2 32 12)) (run0 (keyK 32 (8 + k)) 63 (args2 32 12))) 8 = true := by kernel_rfl
theorem b32_12_16 : allN (fun k => agreeN 32 (run0 (keyK 32 (16 + k)) 107 (args2 32 12)) (run0 (keyK 32 (16 + k)) 63 (args2 32 12))) 8 = true := by kernel_rfl
theorem b32_12_24 : allN (fun k => agreeN 32 (run0 (keyK 32 (24 + k)) 107 (args2 32 12)) (run0 (keyK 32 (24 + k)) 63 (args2 32 12))) 8 = true := by kernel_rfl
theorem bin32_12 : LeafB 107 32 12 ∧ LeafB 63 32 12 := leafB_keyed (by decide) (by decide) (by decide) rfl (by decide) fun k hk => by
  by_cases h0 : k < 8
  · obtain ⟨j, rfl⟩ : ∃ j, k = 0 + j := ⟨k - 0, by omega⟩
    exact allN_ok b32_12_0 j (by omega)
  by_cases h8 : k < 16
  · obtain ⟨j, rfl⟩ : ∃ j, k = 8 + j := ⟨k - 8, by omega⟩
    exact allN_ok b32_12_8 j (by omega)
  by_cases h16 : k < 24
  · obtain ⟨j, rfl⟩ : ∃ j, k = 16 + j := ⟨k - 16, by omega⟩
    exact allN_ok b32_12_16 j (by omega)
  obtain ⟨j, rfl⟩ : ∃ j, k = 24 + j := ⟨k - 24, by omega⟩
  exact allN_ok b32_12_24 j (by omega)
theorem b32_13_0 : allN (fun k => agreeN 32 (run0 (keyK 32 (0 + k)) 107 (args2 32 13)) (run0 (keyK 32 (0 + k)) 63 (args2 32 13))) 8 = true := by kernel_rfl
theorem b32_13_8 : allN (fun k => agreeN 32 (run0 (keyK 32 (8 + k)) 107 (args2 32 13)) (run0 (keyK 32 (8 + k)) 63 (args2 32 13))) 8 = true := by kernel_rfl
theorem b32_13_16 : allN (fun k => agreeN 32 (run0 (keyK 32 (16 + k)) 107 (args2 32 13)) (run0 (keyK 32 (16 + k)) 63 (args2 32 13))) 8 = true := by kernel_rfl
theorem b32_13_24 : allN (fun k => agreeN 32 (run0 (keyK 32 (24 + k)) 107 (args2 32 13)) (run0 (keyK 32 (24 + k)) 63 (args2 32 13))) 8 = true := by kernel_rfl
theorem bin32_13 : LeafB 107 32 13 ∧ LeafB 63 32 13 := leafB_keyed (by decide) (by decide) (by decide) rfl (by decide) fun k hk => by
  by_cases h0 : k < 8
  · obtain ⟨j, rfl⟩ : ∃ j, k = 0 + j := ⟨k - 0, by omega⟩
    exact allN_ok b32_13_0 j (by omega)
  by_cases h8 : k < 16
  · obtain ⟨j, rfl⟩ : ∃ j, k = 8 + j := ⟨k - 8, by omega⟩
    exact allN_ok b32_13_8 j (by omega)
  by_cases h16 : k < 24
  · obtain ⟨j, rfl⟩ : ∃ j, k = 16 + j := ⟨k - 16, by omega⟩
    exact allN_ok b32_13_16 j (by omega)
  obtain ⟨j, rfl⟩ : ∃ j, k = 24 + j := ⟨k - 24, by omega⟩
  exact allN_ok b32_13_24 j (by omega)

end Sx
end Go.Proofs.YtfdggebddcoeeaaGreatDoor
end
