/-
  All operations that write, in one statement.
-/
import Derived.Test.YtfdggebddcoeeaaGreatDoorTyK
set_option linter.unusedVariables false
set_option linter.unusedSimpArgs false
noncomputable section
namespace Go.Proofs.YtfdggebddcoeeaaGreatDoor
namespace Sx
open Go Go.RowKit
variable (E : Env) (loc : Nat → Nat × Nat) (P : Program) (G : Gl)

theorem wrt_ok {lo B nx nx' : Nat} {hp hp' : Tr SBlk} {w : World} {tm : Tr SV} {a : Act} (ht : TRel E loc nx tm a.tmps) (hr : HRel E loc P nx hp w) (ho : Own loc lo B nx) (hB : B ≤ w.heap.size) {o : Oper} {v : SV}
    {f : Nat → Tr SV → Tr SBlk → Nat → Option (SV × Tr SBlk × Nat)} (hc : cls P G o.op = .wrt f) (h : f lo tm hp nx = some (v, hp', nx')) :
    ∃ w' loc', Step E loc P B lo nx nx' hp' w v loc' w' ∧ ((execOp a.eval o).run P w = .ok (.value (v.den E loc')) w' ∨ ((execOp a.eval o).run P w = .ok .skip w' ∧ v.den E loc' = undef)) := by
  unfold execOp
  cases hop : o.op <;> rw [hop] at hc <;> simp only [cls] at hc <;> (try (cases hc; done))
  case store t x y =>
    cases hc
    dsimp only at h
    split at h
    · rename_i x' hx
      split at h
      · rename_i y' hy
        cases h1 : (and (knownT P t) (Nat.beq (cellsOf y').length (szOf P t))) <;> rw [h1] at h <;> try (cases h; done)
        rw [Bool.cond_true] at h
        obtain ⟨k1, k2⟩ := (Bool.and_eq_true _ _).mp h1
        split at h
        · rename_i hp1 hst
          cases h
          obtain ⟨a1, a2⟩ := opv_ok E loc ht hx
          obtain ⟨b1, b2⟩ := opv_ok E loc ht hy
          obtain ⟨b, off, cur, ty, q1, q2, q3, q4, q5⟩ := storeV_ok E loc P hr ho b2 hst
          subst q1
          refine ⟨_, loc, q5, .inr ⟨?_, by simp [SV.den, denL, undef]⟩⟩
          have hst := run_storeCells_at P (loc b).1 off ty (denL E loc (cellsOf y')) 0 cur w q2 (by rw [denL_length]; simpa using q3) q4
          simp only [Nat.add_zero] at hst
          have hsz := szOf_known P k1 w
          have e2 : ¬ (y'.den E loc).cells.size ≠ szOf P t := by
            rw [cellsOf_den]; simp [denL_length]; exact Nat.eq_of_beq_eq_true k2
          have hcl : (y'.den E loc).cells.toList = denL E loc (cellsOf y') := by rw [cellsOf_den]
          simp only [a1, b1, SV.den, Instr.storeAt, Instr.sureAddr, storeVar, Sem.run_bind, Sem.run_pure, Result.andThen_ok, hsz, if_neg e2, hcl, hst]
        · cases h
      · cases h
    · cases h
  case makeFunc fn first caps =>
    cases fn <;> simp only at hc <;> try (cases hc; done)
    split at hc <;> cases hc
  case convert src dst x =>
    split at hc
    · rename_i e he
      cases k1 : strT P src <;> rw [k1] at hc <;> (try (cases hc; done)) <;> cases k2 : Nat.beq (descKind P e) 5 <;> rw [k2] at hc <;> (try (cases hc; done)) <;> cases k3 : Nat.beq (szOf P e) 1 <;> rw [k3] at hc <;> (cases hc; done)
    · cases hc
  case makeSlice t l c =>
    split at hc
    · rename_i e he
      cases k1 : szPos P e <;> rw [k1] at hc <;> cases hc
    · cases hc
  case buildSlice t n ps =>
    split at hc
    · rename_i e he
      cases h5 : (and (szPos P e) (Nat.ble (Nat.mul n (szOf P e)) many)) <;> rw [h5] at hc <;> cases hc
    · cases hc
  case slice t x lo hi m =>
    cases m with
    | some m => cases hc
    | none =>
      simp only at hc
      cases he : elemOf' P t <;> rw [he] at hc
      · cases hs : strT P t <;> rw [hs] at hc <;> cases hc
      · cases hc
  case fieldAddr t x i =>
    split at hc
    · rename_i fl hf
      cases hz : Nat.beq (szOf P fl.type) 0 <;> rw [hz] at hc <;> cases hc
    · cases hc
  case field t x i =>
    split at hc <;> cases hc
  case call c =>
    obtain ⟨callee, args, ts⟩ := c
    cases callee <;> simp only at hc <;> try (cases hc; done)
    rename_i b
    have hargs : ∀ {l}, opsv tm args.toList = some l → args.map a.eval = (denL E loc l).toArray ∧ wfL E nx l := fun hl => by
      obtain ⟨a1, a2⟩ := opsv_ok E loc ht hl
      exact ⟨Array.ext' (by rw [Array.toList_map, a1]), a2⟩
    cases b <;> simp only [builtinC] at hc <;> (try (cases hc; done))
    case append =>
      cases hc
      dsimp only at h
      split at h
      · rename_i l hl
        obtain ⟨e1, e2⟩ := hargs hl
        split at h
        · rename_i x y
          split at h
          · rename_i t u hts
            cases h1 : Nat.beq t u <;> rw [h1] at h <;> try (cases h; done)
            rw [Bool.cond_true] at h
            have e3 := Nat.eq_of_beq_eq_true h1
            subst e3
            split at h
            · rename_i e he
              cases h2 : szPos P e <;> rw [h2] at h <;> try (cases h; done)
              rw [Bool.cond_true] at h
              obtain ⟨w', loc', s1, s2⟩ := appV_ok E loc P hr ho hB o.type (elemOf'_ok P he) h2 h
              have hts' : ts = #[t, t] := Array.ext' (by rw [hts])
              refine ⟨w', loc', s1, .inl ?_⟩
              simp only [resolve, invoke, builtin, Sem.run_bind, Sem.run_pure, Result.andThen_ok, e1, denL, hts', s2]
            · cases h
          · cases h
        · cases h
      · cases h
    case copy =>
      cases hc
      dsimp only at h
      split at h
      · rename_i l hl
        obtain ⟨e1, e2⟩ := hargs hl
        split at h
        · rename_i x y
          split at h
          · rename_i t hts
            split at h
            · rename_i e he
              cases h2 : szPos P e <;> rw [h2] at h <;> try (cases h; done)
              rw [Bool.cond_true] at h
              obtain ⟨w', s1, s2⟩ := copyV_ok E loc P (ty := o.type) hr ho (elemOf'_ok P he) h2 h ts hts
              refine ⟨w', loc, s1, .inl ?_⟩
              simp only [resolve, invoke, builtin, Sem.run_bind, Sem.run_pure, Result.andThen_ok, e1, denL, s2]
            · cases h
          · cases h
        · cases h
      · cases h

end Sx
end Go.Proofs.YtfdggebddcoeeaaGreatDoor
end
