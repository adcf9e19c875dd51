/-
  All silent operations in one statement.
-/
import Derived.Test.YtfdggebddcoeeaaGreatDoorTyG
set_option linter.unusedVariables false
set_option linter.unusedSimpArgs false
noncomputable section
namespace Go.Proofs.YtfdggebddcoeeaaGreatDoor
namespace Sx
open Go Go.RowKit
variable (E : Env) (loc : Nat → Nat × Nat) (P : Program) (G : Gl)

theorem silL_ok {o : Oper} {f : Tr SV → Tr SBlk → Option SV} (hc : cls P G o.op = .sil f) (hl : isLoad o.op = true) {nx : Nat} {tm : Tr SV} {hp : Tr SBlk} {a : Act} {v : SV} (ht : TRel E loc nx tm a.tmps)
    (h : f tm hp = some v) {w : World} (hr : HRel E loc P nx hp w) (hg : GOk E G w) : (execOp a.eval o).run P w = .ok (.value (v.den E loc)) w ∧ v.wf E nx := by
  unfold execOp
  cases hop : o.op <;> rw [hop] at hl hc <;> simp only [isLoad, Bool.false_eq_true] at hl
  simp only [cls] at hc
  cases hc
  obtain ⟨x, h1, h2⟩ := bindV_ok h
  obtain ⟨a1, a2⟩ := opv_ok E loc ht h1
  obtain ⟨b1, b2⟩ := loadS_ok E loc P G hr hg h2
  refine ⟨?_, b2⟩
  simp only [Sem.run_bind, a1, b1, Result.andThen_ok, Sem.run_pure]

theorem goInt_ok {n : Nat} (h : Nat.ble n many = true) : goInt n = .int .i64 (n : Int) ∧ inR .i64 (n : Int) := by
  have : n ≤ 1048576 := Nat.le_of_ble_eq_true h
  refine ⟨?_, ?_⟩
  · simp [goInt]
  · simp [inR, IntKind.min, IntKind.max, IntKind.signed, IntKind.bits]; omega

theorem keyE_ok : ∀ {l : List (SE × SE)}, (∀ p ∈ l, p.1.den E = p.2.den E) → ∀ e, (keyE l e).den E = e.den E
  | [], _, e => rfl
  | (x, n) :: l, h, e => by
    simp only [keyE]
    cases hb : SE.beq x e
    · exact keyE_ok (fun p hp => h p (List.mem_cons_of_mem _ hp)) e
    · rw [← SE.beq_eq hb]
      exact (h _ List.mem_cons_self).symm
theorem keyV_ok (hk : KOk E G) (u : SV) : ∀ loc nx, (keyV G u).den E loc = u.den E loc ∧ (u.wf E nx → (keyV G u).wf E nx) := by
  intro loc nx
  cases u <;> try exact ⟨rfl, id⟩
  · exact ⟨by simp only [keyV, SV.den, keyE_ok E hk.1], fun _ => trivial⟩
  · exact ⟨by simp only [keyV, SV.den, keyE_ok E hk.1], fun h => by simp only [keyV, SV.wf, keyE_ok E hk.1]; exact h⟩
theorem keyO_ok (hk : KOk E G) {x : Option SV} {v : SV} (h : keyO G x = some v) : ∃ u, x = some u ∧ ∀ loc nx, v.den E loc = u.den E loc ∧ (u.wf E nx → v.wf E nx) := by
  cases x with
  | none => cases h
  | some u =>
    cases h
    exact ⟨u, rfl, keyV_ok E G hk u⟩
theorem silN_ok (hk : KOk E G) {o : Oper} {f : Tr SV → Tr SBlk → Option SV} (hc : cls P G o.op = .sil f) (hl : isLoad o.op = false) {nx : Nat} {tm : Tr SV} {hp : Tr SBlk} {a : Act} {v : SV} (ht : TRel E loc nx tm a.tmps)
    (h : f tm hp = some v) {w0 : World} (hr : HRel E loc P nx hp w0) (w : World) : (execOp a.eval o).run P w = .ok (.value (v.den E loc)) w ∧ v.wf E nx := by
  unfold execOp
  cases hop : o.op <;> rw [hop] at hl hc <;> simp only [cls] at hc <;> (try (cases hc; done)) <;> (try (simp only [isLoad, Bool.true_eq_false] at hl; done))
  case move x =>
    cases hc
    obtain ⟨a1, a2⟩ := opv_ok E loc ht h
    exact ⟨by simp only [Sem.run_pure, a1], a2⟩
  case assign x =>
    cases hc
    obtain ⟨a1, a2⟩ := opv_ok E loc ht h
    exact ⟨by simp only [Sem.run_pure, a1], a2⟩
  case pick c x y =>
    cases hc
    obtain ⟨t, a1, a2, a3⟩ := pickV_ok E loc ht h
    refine ⟨?_, a3⟩
    simp only [a1, asBool, Sem.run_bind, Sem.run_pure, Result.andThen_ok, a2]
  case build t ps =>
    cases hc
    dsimp only at h
    split at h
    · rename_i vs hvs
      obtain ⟨a1, a2⟩ := parts_ok E loc ht hvs
      obtain ⟨b1, b2⟩ := buildV_ok E loc P h a2 w
      refine ⟨?_, b2⟩
      have e : (ps.map fun (x : Nat × Operand) => (x.1, a.eval x.2)) = (denP E loc vs).toArray := by
        apply Array.ext'
        rw [Array.toList_map, a1]
      have e' : (ps.map fun x => match x with | (i, x) => (i, a.eval x)) = (denP E loc vs).toArray := e
      simp only [e', Sem.run_bind, b1, Result.andThen_ok, Sem.run_pure]
    · cases h
  case nilCheck x =>
    cases hc
    obtain ⟨x', h1, h2⟩ := bindV_ok h
    obtain ⟨a1, a2⟩ := opv_ok E loc ht h1
    cases x' <;> simp only [nilV] at h2 <;> try (cases h2; done)
    all_goals
      cases h2
      refine ⟨?_, a2⟩
      simp only [a1, SV.den]
      rfl
  case binOp b t x y u =>
    cases hc
    obtain ⟨x', h1, h2⟩ := bindV_ok h
    obtain ⟨y', h3, h4⟩ := bindV_ok h2
    obtain ⟨a1, a2⟩ := opv_ok E loc ht h1
    obtain ⟨b1, b2⟩ := opv_ok E loc ht h3
    obtain ⟨u', h5, h6⟩ := keyO_ok E G hk h4
    obtain ⟨c1, c2⟩ := binS_ok E loc P h5 a2 b2 w x y
    refine ⟨?_, (h6 loc nx).2 (wf_any E c2 nx)⟩
    simp only [a1, b1]
    rw [Sem.run_bind, c1, (h6 loc nx).1]
    rfl
  case unOp u t x =>
    cases hc
    obtain ⟨u', h0, h6⟩ := keyO_ok E G hk h
    obtain ⟨x', h1, h2⟩ := bindV_ok h0
    obtain ⟨a1, a2⟩ := opv_ok E loc ht h1
    obtain ⟨b1, b2⟩ := unV_ok E loc P h2 w
    refine ⟨?_, (h6 loc nx).2 (wf_any E b2 nx)⟩
    rw [(h6 loc nx).1]
    simp only [a1, Sem.run_bind, b1, Result.andThen_ok, Sem.run_pure]
  case convert src dst x =>
    split at hc
    · rename_i e he
      cases k1 : strT P src <;> rw [k1] at hc <;> (try (cases hc; done)) <;> cases k2 : Nat.beq (descKind P e) 5 <;> rw [k2] at hc <;> (try (cases hc; done)) <;> cases k3 : Nat.beq (szOf P e) 1 <;> rw [k3] at hc <;> (cases hc; done)
    · cases hc
      obtain ⟨x', h1, h2⟩ := bindV_ok h
      obtain ⟨a1, a2⟩ := opv_ok E loc ht h1
      obtain ⟨b1, b2⟩ := convV_ok E loc P h2 w
      refine ⟨?_, wf_any E b2 nx⟩
      simp only [a1, Sem.run_bind, b1, Result.andThen_ok, Sem.run_pure]
  case makeFunc fn first caps =>
    cases fn <;> simp only at hc <;> try (cases hc; done)
    rename_i g
    split at hc
    · rename_i hf
      cases hc
      dsimp only at h
      split at h
      · rename_i vs hvs
        cases h
        obtain ⟨a1, a2⟩ := opsv_ok E loc ht hvs
        refine ⟨?_, a2⟩
        have e1 : first.map a.eval = #[] := by
          apply Array.ext'
          rw [Array.toList_map, hf]; rfl
        have e2 : caps.map a.eval = (denL E loc vs).toArray := by
          apply Array.ext'
          rw [Array.toList_map, a1]
        simp only [e1, e2, Instr.makeFunc, Sem.run_bind, Sem.run_pure, Result.andThen_ok, SV.den]
      · cases h
    · cases hc
  case makeSlice t l c =>
    split at hc
    · rename_i e he
      cases k1 : szPos P e <;> rw [k1] at hc <;> cases hc
    · cases hc
  case buildSlice t n ps =>
    split at hc
    · rename_i e he
      cases h5 : (and (szPos P e) (Nat.ble (Nat.mul n (szOf P e)) many)) <;> rw [h5] at hc <;> cases hc
    · cases hc
  case slice t x lo hi m =>
    cases m with
    | some m => cases hc
    | none =>
      simp only at hc
      cases he : elemOf' P t with
      | some e =>
        rw [he] at hc
        cases hc
        obtain ⟨x', h1, h2⟩ := bindV_ok h
        obtain ⟨a1, a2⟩ := opv_ok E loc ht h1
        have key : (∀ s, x' ≠ .str s) → (match lenV x' with
          | some n => cond (capOk hp e (szOf P e) x') (cond (knownT P e) (sliceV (szOf P e) x' (bound tm lo 0) (bound tm hi n)) none) none
          | none => none) = some v → _ := fun hns h2 => by
          cases hn : lenV x' with
          | none => rw [hn] at h2; cases h2
          | some n =>
            rw [hn] at h2
            cases hc : capOk hp e (szOf P e) x' <;> simp only [hc, cond] at h2 <;> try (cases h2; done)
            cases hk : knownT P e <;> rw [hk] at h2 <;> try (cases h2; done)
            exact sliceV_ok E loc P (elemOf'_ok P he) hk ht hr hn hns hc h2 a2 w
        obtain ⟨b1, b2⟩ : (Instr.sliceAt t (x'.den E loc) (lo.map a.eval) (hi.map a.eval) none).run P w = .ok (v.den E loc) w ∧ v.wf E nx := by
          cases x' <;> first
            | (cases h2; done)
            | exact key (fun s hs => by cases hs) h2
        refine ⟨?_, b2⟩
        simp only [a1, Option.map_none, Sem.run_bind, b1, Result.andThen_ok, Sem.run_pure]
      | none =>
        rw [he] at hc
        simp only at hc
        cases hs : strT P t <;> rw [hs] at hc <;> try (cases hc; done)
        cases hc
        obtain ⟨x', h1, h2⟩ := bindV_ok h
        obtain ⟨a1, a2⟩ := opv_ok E loc ht h1
        cases x' <;> simp only at h2 <;> try (cases h2; done)
        rename_i s
        simp only [sliceV] at h2
        cases hx : bound tm lo 0 with
        | none => rw [hx] at h2; cases h2
        | some l =>
          cases hy : bound tm hi s.length with
          | none => rw [hx, hy] at h2; cases h2
          | some r =>
            rw [hx, hy] at h2
            simp only at h2
            cases b1 : Nat.ble l r <;> rw [b1] at h2 <;> try (cases h2; done)
            cases b2 : Nat.ble r s.length <;> rw [b2] at h2 <;> try (cases h2; done)
            cases h2
            have e1 := Nat.le_of_ble_eq_true b1
            have e2 := Nat.le_of_ble_eq_true b2
            refine ⟨?_, trivial⟩
            have hb := sliceBounds_ok E loc P false s.length s.length l r lo hi ht hx hy e1 e2 w
            have := sliceStr_ok P (strT_ok P hs) _ _ hb
            simp only [a1, SV.den, Option.map_none, Sem.run_bind, this, Result.andThen_ok, Sem.run_pure]
            rfl
  case fieldAddr t x i =>
    split at hc
    · rename_i fl hf
      cases hz : Nat.beq (szOf P fl.type) 0 <;> rw [hz] at hc <;> try (cases hc; done)
      cases hc
      obtain ⟨x', h1, h2⟩ := bindV_ok h
      obtain ⟨a1, a2⟩ := opv_ok E loc ht h1
      obtain ⟨b1, b2⟩ := fieldAddr_ok E loc P hf hz h2 a2 w
      refine ⟨?_, b2⟩
      simp only [a1, Sem.run_bind, b1, Result.andThen_ok, Sem.run_pure]
    · cases hc
  case field t x i =>
    split at hc
    · rename_i fl hf
      cases hc
      obtain ⟨x', h1, h2⟩ := bindV_ok h
      obtain ⟨a1, a2⟩ := opv_ok E loc ht h1
      cases x' <;> simp only at h2 <;> try (cases h2; done)
      obtain ⟨fs, hu, hi⟩ := fieldAt'_ok P hf
      obtain ⟨b1, b2⟩ := partS_ok E loc P h2 a2 w
      refine ⟨?_, b2⟩
      simp only [a1, SV.den, Instr.field, Sem.run_bind, run_underlying hu, Result.andThen_ok, hi, asAgg, Sem.run_pure, b1]
    · cases hc
  case indexAddr t x i =>
    cases hc
    obtain ⟨x', h1, h2⟩ := bindV_ok h
    obtain ⟨a1, a2⟩ := opv_ok E loc ht h1
    split at h2
    · rename_i n hn
      obtain ⟨k, c1, c2⟩ := opN_ok E loc ht hn
      obtain ⟨b1, b2⟩ := idxAddr_ok E loc P h2 a2 k w
      refine ⟨?_, b2⟩
      simp only [a1, c1, Sem.run_bind, b1, Result.andThen_ok, Sem.run_pure]
    · cases h2
  case index t x i =>
    cases hc
    obtain ⟨x', h1, h2⟩ := bindV_ok h
    obtain ⟨a1, a2⟩ := opv_ok E loc ht h1
    split at h2
    · rename_i n hn
      obtain ⟨k, c1, c2⟩ := opN_ok E loc ht hn
      obtain ⟨b1, b2⟩ := idxV_ok E loc P h2 a2 k w
      refine ⟨?_, b2⟩
      simp only [a1, c1, Sem.run_bind, b1, Result.andThen_ok, Sem.run_pure]
    · cases h2
  case extract x i =>
    cases hc
    obtain ⟨x', h1, h2⟩ := bindV_ok h
    obtain ⟨a1, a2⟩ := opv_ok E loc ht h1
    cases x' <;> simp only at h2 <;> try (cases h2; done)
    rename_i vs
    refine ⟨?_, wfL_get E a2 h2⟩
    have : (denL E loc vs).toArray[i]? = some (v.den E loc) := by
      simp [denL_eq, h2]
    simp only [a1, SV.den, Instr.extract, this, Sem.run_bind, Sem.run_pure, Result.andThen_ok]
  case call c =>
    obtain ⟨callee, args, ts⟩ := c
    cases callee <;> simp only at hc <;> try (cases hc; done)
    rename_i b
    have hargs : ∀ {l}, opsv tm args.toList = some l → args.map a.eval = (denL E loc l).toArray ∧ wfL E nx l := fun hl => by
      obtain ⟨a1, a2⟩ := opsv_ok E loc ht hl
      exact ⟨Array.ext' (by rw [Array.toList_map, a1]), a2⟩
    cases b <;> simp only [builtinC] at hc <;> (try (cases hc; done))
    case len =>
      cases hc
      dsimp only at h
      split at h
      · rename_i l hl
        obtain ⟨e1, e2⟩ := hargs hl
        split at h
        · rename_i x'
          split at h
          · rename_i t hts
            have hrun : ∀ n : Nat, Nat.ble n many = true → (Builtin.len_ ts o.type (denL E loc [x']).toArray).run P w = .ok (goInt n) w →
                (do let d ← resolve a.eval ⟨.builtin .len, args, ts⟩ o.type; invoke d.target d.args : Sem Next).run P w = .ok (.value ((SV.int .i64 (.lit (.ofNat n))).den E loc)) w ∧ (SV.int .i64 (.lit (.ofNat n))).wf E nx := fun n hn hr' => by
              obtain ⟨g1, g2⟩ := goInt_ok hn
              refine ⟨?_, g2⟩
              simp only [resolve, invoke, builtin, Sem.run_bind, Sem.run_pure, Result.andThen_ok, e1, hr', g1]
              rfl
            split at h
            · rename_i n e harr
              cases hb : Nat.ble n many <;> rw [hb] at h <;> try (cases h; done)
              cases h
              refine hrun n hb ?_
              have := arrOf_ok P harr
              cases x' <;> simp only [Builtin.len_, hts, denL, SV.den, List.getElem?_toArray, List.getElem?_cons_zero, Sem.run_bind, run_underlying this, Result.andThen_ok, Sem.run_pure]
            · cases hor : lenK P t x' <;> rw [hor] at h <;> try (cases h; done)
              simp only [cond] at h
              split at h
              · rename_i n hn
                cases hb : Nat.ble n many <;> rw [hb] at h <;> try (cases h; done)
                cases h
                refine hrun n hb ?_
                cases x' <;> simp only [lenV] at hn <;> (try (cases hn; done)) <;> simp only [lenK] at hor <;> cases hn
                · simp only [Builtin.len_, hts, denL, SV.den, List.getElem?_toArray, List.getElem?_cons_zero, Sem.run_bind, run_underlying (strT_ok P hor), Result.andThen_ok, Sem.run_pure]
                  simp [ByteArray.size]
                all_goals
                  obtain ⟨e, he⟩ := Option.isSome_iff_exists.1 hor
                  simp only [Builtin.len_, hts, denL, SV.den, List.getElem?_toArray, List.getElem?_cons_zero, Sem.run_bind, run_underlying (elemOf'_ok P he), Result.andThen_ok, Sem.run_pure]
              · cases h
          · cases h
        · cases h
      · cases h
    case min =>
      cases hc
      dsimp only at h
      split at h
      · rename_i l hl
        obtain ⟨e1, e2⟩ := hargs hl
        split at h
        · rename_i k p l q
          by_cases hkl : k = l
          · subst hkl
            simp only [decide_true, cond] at h
            cases h
            obtain ⟨kd, kw⟩ := keyV_ok E G hk (minV k p q) loc nx
            rw [kd]
            refine ⟨?_, kw ?_⟩
            · simp only [resolve, invoke, builtin, Sem.run_bind, Sem.run_pure, Result.andThen_ok, e1, denL, SV.den, run_min_int2, minV, mkIte_den, mkLt_den]
              congr 3
              by_cases z : q.den E < p.den E <;> simp [z]
            · simp only [minV, SV.wf, mkIte_den]
              split
              · exact e2.1
              · exact e2.2.1
          · simp [hkl] at h
        · cases h
      · cases h
    case max =>
      cases hc
      dsimp only at h
      split at h
      · rename_i l hl
        obtain ⟨e1, e2⟩ := hargs hl
        split at h
        · rename_i k p l q
          by_cases hkl : k = l
          · subst hkl
            simp only [decide_true, cond] at h
            cases h
            obtain ⟨kd, kw⟩ := keyV_ok E G hk (maxV k p q) loc nx
            rw [kd]
            refine ⟨?_, kw ?_⟩
            · simp only [resolve, invoke, builtin, Sem.run_bind, Sem.run_pure, Result.andThen_ok, e1, denL, SV.den, run_max_int2, maxV, mkIte_den, mkLt_den]
              congr 3
              by_cases z : p.den E < q.den E <;> simp [z]
            · simp only [maxV, SV.wf, mkIte_den]
              split
              · exact e2.1
              · exact e2.2.1
          · simp [hkl] at h
        · cases h
      · cases h

end Sx
end Go.Proofs.YtfdggebddcoeeaaGreatDoor
end
