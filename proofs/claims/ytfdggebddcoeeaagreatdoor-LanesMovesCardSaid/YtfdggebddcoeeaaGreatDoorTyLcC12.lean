/-
  Leaf functions of whole numbers: moves, by each number of places; bits of a byte; how many bits.
-/
import Derived.Test.YtfdggebddcoeeaaGreatDoorTyLf
set_option linter.unusedVariables false
set_option linter.unusedSimpArgs false
set_option maxRecDepth 100000
noncomputable section
namespace Go.Proofs.YtfdggebddcoeeaaGreatDoor
namespace Sx
open Go Go.RowKit

theorem b64_12_0 : allN (fun k => agreeN 64 (run0 (keyK 64 (0 + k)) 107 (args2 64 12)) (run0 (keyK 64 (0 + k)) 63 (args2 64 12))) 4 = true := by kernel_rfl
theorem b64_12_4 : allN (fun k => agreeN 64 (run0 (keyK 64 (4 + k)) 107 (args2 64 12)) (run0 (keyK 64 (4 + k)) 63 (args2 64 12))) 4 = true := by kernel_rfl
theorem b64_12_8 : allN (fun k => agreeN 64 (run0 (keyK 64 (8 + k)) 107 (args2 64 12)) (run0 (keyK 64 (8 + k)) 63 (args2 64 12))) 4 = true := by kernel_rfl
theorem b64_12_12 : allN (fun k => agreeN 64 (run0 (keyK 64 (12 + k)) 107 (args2 64 12)) (run0 (keyK 64 (12 + k)) 63 (args2 64 12))) 4 = true := by kernel_rfl
theorem b64_12_16 : allN (fun k => agreeN 64 (run0 (keyK 64 (16 + k)) 107 (args2 64 12)) (run0 (keyK 64 (16 + k)) 63 (args2 64 12))) 4 = true := by kernel_rfl
theorem b64_12_20 : allN (fun k => agreeN 64 (run0 (keyK 64 (20 + k)) 107 (args2 64 12)) (run0 (keyK 64 (20 + k)) 63 (args2 64 12))) 4 = true := by kernel_rfl
theorem b64_12_24 : allN (fun k => agreeN 64 (run0 (keyK 64 (24 + k)) 107 (args2 64 12)) (run0 (keyK 64 (24 + k)) 63 (args2 64 12))) 4 = true := by kernel_rfl
theorem b64_12_28 : allN (fun k => agreeN 64 (run0 (keyK 64 (28 + k)) 107 (args2 64 12)) (run0 (keyK 64 (28 + k)) 63 (args2 64 12))) 4 = true := by kernel_rfl
theorem b64_12_32 : allN (fun k => agreeN 64 (run0 (keyK 64 (32 + k)) 107 (args2 64 12)) (run0 (keyK 64 (32 + k)) 63 (args2 64 12))) 4 = true := by kernel_rfl
theorem b64_12_36 : allN (fun k => agreeN 64 (run0 (keyK 64 (36 + k)) 107 (args2 64 12)) (run0 (keyK 64 (36 + k)) 63 (args2 64 12))) 4 = true := by kernel_rfl
theorem b64_12_40 : allN (fun k => agreeN 64 (run0 (keyK 64 (40 + k)) 107 (args2 64 12)) (run0 (keyK 64 (40 + k)) 63 (args2 64 12))) 4 = true := by kernel_rfl
theorem b64_12_44 : allN (fun k => agreeN 64 (run0 (keyK 64 (44 + k)) 107 (args2 64 12)) (run0 (keyK 64 (44 + k)) 63 (args2 64 12))) 4 = true := by kernel_rfl
theorem b64_12_48 : allN (fun k => agreeN 64 (run0 (keyK 64 (48 + k)) 107 (args2 64 12)) (run0 (keyK 64 (48 + k)) 63 (args2 64 12))) 4 = true := by kernel_rfl
theorem b64_12_52 : allN (fun k => agreeN 64 (run0 (keyK 64 (52 + k)) 107 (args2 64 12)) (run0 (keyK 64 (52 + k)) 63 (args2 64 12))) 4 = true := by kernel_rfl
theorem b64_12_56 : allN (fun k => agreeN 64 (run0 (keyK 64 (56 + k)) 107 (args2 64 12)) (run0 (keyK 64 (56 + k)) 63 (args2 64 12))) 4 = true := by kernel_rfl
theorem b64_12_60 : allN (fun k => agreeN 64 (run0 (keyK 64 (60 + k)) 107 (args2 64 12)) (run0 (keyK 64 (60 + k)) 63 (args2 64 12))) 4 = true := by kernel_rfl
theorem bin64_12 : LeafB 107 64 12 ∧ LeafB 63 64 12 := leafB_keyed (by decide) (by decide) (by decide) rfl (by decide) fun k hk => by
  by_cases h0 : k < 4
  · obtain ⟨j, rfl⟩ : ∃ j, k = 0 + j := ⟨k - 0, by omega⟩
    exact allN_ok b64_12_0 j (by omega)
  by_cases h4 : k < 8
  · obtain ⟨j, rfl⟩ : ∃ j, k = 4 + j := ⟨k - 4, by omega⟩
    exact allN_ok b64_12_4 j (by omega)
  by_cases h8 : k < 12
  · obtain ⟨j, rfl⟩ : ∃ j, k = 8 + j := ⟨k - 8, by omega⟩
    exact allN_ok b64_12_8 j (by omega)
  by_cases h12 : k < 16
  · obtain ⟨j, rfl⟩ : ∃ j, k = 12 + j := ⟨k - 12, by omega⟩
    exact allN_ok b64_12_12 j (by omega)
  by_cases h16 : k < 20
  · obtain ⟨j, rfl⟩ : ∃ j, k = 16 + j := ⟨k - 16, by omega⟩
    exact allN_ok b64_12_16 j (by omega)
  by_cases h20 : k < 24
  · obtain ⟨j, rfl⟩ : ∃ j, k = 20 + j := ⟨k - 20, by omega⟩
    exact allN_ok b64_12_20 j (by omega)
  by_cases h24 : k < 28
  · obtain ⟨j, rfl⟩ : ∃ j, k = 24 + j := ⟨k - 24, by omega⟩
    exact allN_ok b64_12_24 j (by omega)
  by_cases h28 : k < 32
  · obtain ⟨j, rfl⟩ : ∃ j, k = 28 + j := ⟨k - 28, by omega⟩
    exact allN_ok b64_12_28 j (by omega)
  by_cases h32 : k < 36
  · obtain ⟨j, rfl⟩ : ∃ j, k = 32 + j := ⟨k - 32, by omega⟩
    exact allN_ok b64_12_32 j (by omega)
  by_cases h36 : k < 40
  · obtain ⟨j, rfl⟩ : ∃ j, k = 36 + j := ⟨k - 36, by omega⟩
    exact allN_ok b64_12_36 j (by omega)
  by_cases h40 : k < 44
  · obtain ⟨j, rfl⟩ : ∃ j, k = 40 + j := ⟨k - 40, by omega⟩
    exact allN_ok b64_12_40 j (by omega)
  by_cases h44 : k < 48
  · obtain ⟨j, rfl⟩ : ∃ j, k = 44 + j := ⟨k - 44, by omega⟩
    exact allN_ok b64_12_44 j (by omega)
  by_cases h48 : k < 52
  · obtain ⟨j, rfl⟩ : ∃ j, k = 48 + j := ⟨k - 48, by omega⟩
    exact allN_ok b64_12_48 j (by omega)
  by_cases h52 : k < 56
  · obtain ⟨j, rfl⟩ : ∃ j, k = 52 + j := ⟨k - 52, by omega⟩
    exact allN_ok b64_12_52 j (by omega)
  by_cases h56 : k < 60
  · obtain ⟨j, rfl⟩ : ∃ j, k = 56 + j := ⟨k - 56, by omega⟩
    exact allN_ok b64_12_56 j (by omega)
  obtain ⟨j, rfl⟩ : ∃ j, k = 60 + j := ⟨k - 60, by omega⟩
  exact allN_ok b64_12_60 j (by omega)

end Sx
end Go.Proofs.YtfdggebddcoeeaaGreatDoor
end
