/-
  lanes.shaped: a map literal, and a look into it.
-/
import Derived.Test.YtfdggebddcoeeaaGreatDoorTyZ
import Derived.MapKept
import Derived.WideMake
set_option linter.unusedVariables false
set_option linter.unusedSimpArgs false
set_option maxRecDepth 100000
noncomputable section
namespace Go.Proofs.YtfdggebddcoeeaaGreatDoor
namespace Sx
open Go Go.RowKit

def shapeOf (l : List UInt8) : List (List UInt8 × Nat × Nat) → Nat × Nat
  | [] => (0, 0)
  | (s, r) :: t => cond (eqB s l) r (shapeOf l t)
def shapes : List (List UInt8 × Nat × Nat) := [([105,56,120,49,54],8,0),([105,49,54,120,56],16,0),([105,51,50,120,52],32,0),([105,54,52,120,50],64,0),([102,51,50,120,52],32,1),([102,54,52,120,50],64,1)]
theorem run_insert {P : Program} {w : World} {mty kt et : TypeId} {r clock : Nat} {es : Array MapEntry} {s : ByteArray} {val : Value} (hm : P.underlying mty = some (.map kt et)) (hk : P.underlying kt = some .string)
    (hb : w.heap[r]? = some (.map es clock)) (hf : Instr.findNow .string (.string s) es.toList 0 = some none) :
    (Instr.mapUpdate mty (.map (some r)) (.string s) val).run P w = .ok () { w with heap := w.heap.setIfInBounds r (.map (es.push { key := .string s, val := val, born := clock }) (clock + 1)) } := by
  have hc : (Instr.checkKey false 10000 kt (.string s)).run P w = .ok () w := MapKept.run_checkKey (k := .string s) hk (by simp [MapKept.IsKey]) false 9999
  simp [Instr.mapUpdate, run_underlying hm, MapKept.run_getObj_map hb, hc, MapKept.run_findKey hk hf, MapKept.run_setObj_map _ hb, Result.andThen]
theorem run_look {P : Program} {w : World} {mty kt et : TypeId} {r clock : Nat} {es : Array MapEntry} {s : ByteArray} (hm : P.underlying mty = some (.map kt et)) (hk : P.underlying kt = some .string)
    (hb : w.heap[r]? = some (.map es clock)) {z : Value} (hz : (zeroValue et).run P w = .ok z w) {a : Option (Nat × Value)} (hf : Instr.findNow .string (.string s) es.toList 0 = some a) :
    (Instr.lookup mty (.map (some r)) (.string s) false).run P w = .ok ((a.map (·.2)).getD z) w := by
  have hc : (Instr.checkKey es.isEmpty 10000 kt (.string s)).run P w = .ok () w := MapKept.run_checkKey (k := .string s) hk (by simp [MapKept.IsKey]) _ 9999
  cases a with
  | none => simp [Instr.lookup, run_underlying hm, MapKept.run_getObj_map hb, hc, MapKept.run_findKey hk hf, hz, Result.andThen]
  | some x => obtain ⟨i, v⟩ := x; simp [Instr.lookup, run_underlying hm, MapKept.run_getObj_map hb, hc, MapKept.run_findKey hk hf, Result.andThen]
/-- the literal's entries, the first n -/
def entry (x : List UInt8 × Nat × Nat) (i : Nat) : MapEntry := { key := .string ⟨x.1.toArray⟩, val := .agg #[.int .i64 (x.2.1 : Int), .bool (decide (x.2.2 ≠ 0))], born := i }
theorem find_shape (s : List UInt8) : ∀ (l : List (List UInt8 × Nat × Nat)) (i j : Nat),
    ∃ a, Instr.findNow .string (.string ⟨s.toArray⟩) ((l.zipIdx j).map fun x => entry x.1 x.2) i = some a ∧
      (a.map (·.2)).getD (.agg #[.int .i64 0, .bool false]) = .agg #[.int .i64 ((shapeOf s l).1 : Int), .bool (decide ((shapeOf s l).2 ≠ 0))] := by
  intro l
  induction l with
  | nil => intro i j; exact ⟨none, rfl, rfl⟩
  | cons x l ih =>
    intro i j
    simp only [List.zipIdx_cons, List.map_cons, Instr.findNow, entry, Instr.sameNow]
    by_cases h : s = x.1
    · subst h
      have hb : ((⟨x.1.toArray⟩ : ByteArray) == ⟨x.1.toArray⟩) = true := (MapKept.bytes_beq _ _).2 rfl
      rw [hb]
      refine ⟨_, rfl, ?_⟩
      have : eqB x.1 x.1 = true := by
        have : ∀ l : List UInt8, eqB l l = true := by
          intro l
          induction l with
          | nil => rfl
          | cons a l ih => simp [eqB, Nat.beq_refl, ih]
        exact this _
      simp only [shapeOf, this, Bool.cond_true]
      rfl
    · have hb : ((⟨s.toArray⟩ : ByteArray) == ⟨x.1.toArray⟩) = false := by
        rw [Bool.eq_false_iff]
        intro hb
        have := (MapKept.bytes_beq _ _).1 hb
        simp at this
        exact h this
      rw [hb]
      have : eqB x.1 s = false := by
        cases he : eqB x.1 s
        · rfl
        · exact absurd (eqB_ok he).symm h
      simp only [shapeOf, this, Bool.cond_false]
      exact ih (i + 1) (j + 1)

end Sx
end Go.Proofs.YtfdggebddcoeeaaGreatDoor
end
