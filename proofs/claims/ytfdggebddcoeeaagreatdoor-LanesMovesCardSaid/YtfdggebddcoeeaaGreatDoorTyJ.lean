/-
  Operations that write: store, append, copy.
-/
import Derived.Test.YtfdggebddcoeeaaGreatDoorTyI
set_option linter.unusedVariables false
set_option linter.unusedSimpArgs false
noncomputable section
namespace Go.Proofs.YtfdggebddcoeeaaGreatDoor
namespace Sx
open Go Go.RowKit
variable (E : Env) (loc : Nat → Nat × Nat) (P : Program) (G : Gl)

/-- the call's own blocks lie from B on -/
def Own (lo B nx : Nat) : Prop := ∀ b, lo ≤ b → b < nx → B ≤ (loc b).1
/-- from (hp, nx, w) to (hp', nx', w'), with result v -/
structure Step (B lo nx nx' : Nat) (hp' : Tr SBlk) (w : World) (v : SV) (loc' : Nat → Nat × Nat) (w' : World) : Prop where
  le : nx ≤ nx'
  agree : ∀ b, b < nx → loc' b = loc b
  hr : HRel E loc' P nx' hp' w'
  bel : Below B w w'
  own : Own loc' lo B nx'
  wf : v.wf E nx'

theorem storeV_ok {lo B nx : Nat} {hp hp' : Tr SBlk} {w : World} (hr : HRel E loc P nx hp w) (ho : Own loc lo B nx) {x v : SV} (hv : v.wf E nx) (h : storeV lo hp x v = some hp') :
    ∃ b off cur ty, x = .ptr b off ∧ w.heap[(loc b).1]? = some (.cells cur ty (0, 0)) ∧ off + (cellsOf v).length ≤ cur.size ∧ (∀ u ∈ denL E loc (cellsOf v), u.oneCell' = true) ∧
      Step E loc P B lo nx nx hp' w (.tup []) loc (w.setRow (loc b).1 (cur.toList.take off ++ denL E loc (cellsOf v) ++ cur.toList.drop (off + (denL E loc (cellsOf v)).length)).toArray) := by
  unfold storeV at h
  cases x <;> simp only at h <;> try (cases h; done)
  rename_i b off
  cases h1 : Nat.ble lo b <;> rw [h1] at h <;> try (cases h; done)
  simp only [cond] at h
  cases hk : hp.get b with
  | none => rw [hk] at h; cases h
  | some k =>
    obtain ⟨ty, cells, ex, fr⟩ := k
    rw [hk] at h
    simp only at h
    cases fr <;> simp only at h <;> try (cases h; done)
    cases h2 : Nat.ble (Nat.add off (cellsOf v).length) cells.length <;> rw [h2] at h <;> try (cases h; done)
    cases h3 : allOne (cellsOf v) <;> rw [h3] at h <;> try (cases h; done)
    cases h
    have e2 : off + (cellsOf v).length ≤ cells.length := Nat.le_of_ble_eq_true h2
    obtain ⟨cur, fz, rest, g1, g2, g3, g4, g5⟩ := hr.rel b _ hk
    have hfz := g2 rfl
    subst hfz
    have hlen : cells.length ≤ cur.size := by
      have := congrArg List.length g3
      simp [denL_length] at this
      omega
    refine ⟨b, off, cur, ty, rfl, g1, by omega, allOne_den E loc h3, ?_⟩
    have hblt := hr.lt b _ hk
    have hset := setL_den E loc e2
    have hnew : (cur.toList.take off ++ denL E loc (cellsOf v) ++ cur.toList.drop (off + (denL E loc (cellsOf v)).length)) = denL E loc (setL cells off (cellsOf v)) ++ rest := by
      rw [hset, g3]
      simp only [denL_length]
      rw [List.take_append_of_le_length (by rw [denL_length]; omega), List.drop_append_of_le_length (by rw [denL_length]; omega)]
      simp
    refine ⟨Nat.le_refl _, fun _ _ => rfl, ?_, ?_, ?_, trivial⟩
    · refine hrel_put E loc P hr (fun _ _ => rfl) (Nat.le_refl _) (fun b' k' h => ?_) hblt ?_ (setL_wf E e2 (hr.wf b _ hk) (cellsOf_wf E hv)) (setL_one e2 (hr.one b _ hk) h3)
      · rcases Tr.get_set h with ⟨e, h2⟩ | ⟨e, h2⟩
        · exact .inl ⟨e, h2⟩
        · have hne : (loc b').1 ≠ (loc b).1 := fun he => e (hr.inj _ _ _ _ h2 hk he)
          exact .inr ⟨e, h2, setRow_other w _ _ _ hne, hne⟩
      · refine ⟨_, (0, 0), rest, setRow_heap w _ cur _ ty _ g1, fun _ => rfl, by rw [hnew], g4, fun he => ?_⟩
        obtain ⟨a1, a2, a3⟩ := g5 he
        refine ⟨?_, a2, ?_⟩
        · rw [← a1]
          simp only [List.size_toArray, hnew]
          have := congrArg List.length g3
          simp only [Array.length_toList] at this
          rw [this]
          simp [denL_length, setL_length e2]
        · simpa [setL_length e2] using a3
    · exact ⟨rfl, rfl, rfl, by simp, fun k hk' => setRow_other w _ _ _ (by have := ho b (Nat.le_of_ble_eq_true h1) hblt; omega)⟩
    · exact ho

theorem slCells_ok {nx : Nat} {hp : Tr SBlk} {w : World} (hr : HRel E loc P nx hp w) {n m : Nat} {y : SV} {new : List SV} (h : slCells hp n y = some (m, new)) :
    new.length = m * n ∧ wfL E nx new ∧ allOne new = true ∧ ((y.den E loc = .slice none 0 0 ∧ m = 0 ∧ y = .nils) ∨ ∃ ad c, y.den E loc = .slice (some ad) m c ∧ ∀ j u, (denL E loc new)[j]? = some u → w.cell? (ad.add j) = some u) := by
  unfold slCells at h
  cases y <;> simp only at h <;> try (cases h; done)
  · rename_i b off len c
    cases hk : hp.get b with
    | none => rw [hk] at h; cases h
    | some k =>
      rw [hk] at h
      simp only at h
      cases h1 : Nat.ble (Nat.add off (Nat.mul len n)) k.cells.length <;> rw [h1] at h <;> try (cases h; done)
      cases h
      have e1 : off + m * n ≤ k.cells.length := Nat.le_of_ble_eq_true h1
      refine ⟨by simp; omega, wfL_take E (wfL_drop E (hr.wf b k hk) _) _, (allOne_iff _).2 fun v hv => (allOne_iff _).1 (hr.one b k hk) v (List.mem_of_mem_drop (List.mem_of_mem_take hv)), .inr ⟨⟨(loc b).1, off, none⟩, _, rfl, fun j u hj => ?_⟩⟩
      rw [denL_eq, List.getElem?_map] at hj
      cases hx : (List.take (Nat.mul m n) (List.drop off k.cells))[j]? with
      | none => rw [hx] at hj; cases hj
      | some x =>
        rw [hx] at hj
        cases hj
        rw [add_plain']
        apply brel_cell E loc P (hr.rel b k hk)
        rw [List.getElem?_take] at hx
        split at hx
        · rwa [List.getElem?_drop] at hx
        · cases hx
  · cases h
    exact ⟨by simp, trivial, rfl, .inl ⟨rfl, rfl, rfl⟩⟩

theorem setRow_nil {w : World} {g off : Nat} {cur : Array Value} {ty : TypeId} (h : w.heap[g]? = some (.cells cur ty (0, 0))) : w.setRow g (cur.toList.take off ++ [] ++ cur.toList.drop (off + 0)).toArray = w := by
  simp only [List.append_nil, Nat.add_zero, List.take_append_drop, Array.toArray_toList]
  exact setRow_self w g cur ty (0, 0) h

theorem min_eq (m len : Nat) : (cond (Nat.ble m len) m len) = Nat.min m len := by
  cases h : Nat.ble m len
  · have : ¬ m ≤ len := fun e => by rw [Nat.ble_eq_true_of_le e] at h; cases h
    show len = min m len; omega
  · have := Nat.le_of_ble_eq_true h
    show m = min m len; omega

theorem copyV_ok {lo B nx nx' : Nat} {hp hp' : Tr SBlk} {w : World} (hr : HRel E loc P nx hp w) (ho : Own loc lo B nx) {t ty e : TypeId} (he : P.underlying t = some (.slice e)) (hs : szPos P e = true) {x y v : SV}
    (h : copyV lo hp nx (szOf P e) x y = some (v, hp', nx')) (ts : Array TypeId) (hts : ts[0]? = some t) :
    ∃ w', Step E loc P B lo nx nx' hp' w v loc w' ∧ (Builtin.copy_ ts ty #[x.den E loc, y.den E loc]).run P w = .ok (v.den E loc) w' := by
  unfold copyV at h
  cases x <;> simp only at h <;> try (cases h; done)
  rename_i b off len c
  cases hc : slCells hp (szOf P e) y with
  | none => rw [hc] at h; cases h
  | some mn =>
    obtain ⟨m, new⟩ := mn
    rw [hc] at h
    simp only at h
    cases hmb : Nat.ble m many <;> rw [hmb] at h <;> try (cases h; done)
    have hmm := Nat.le_of_ble_eq_true hmb
    rw [Bool.cond_true, min_eq] at h
    split at h
    · rename_i hp1 hst
      cases h
      obtain ⟨c1, c2, c3, c4⟩ := slCells_ok E loc P hr hc
      obtain ⟨b', off', cur, ty', q1, q2, q3, q4, q5⟩ := storeV_ok E loc P hr ho (v := .agg (new.take (Nat.mul (Nat.min m len) (szOf P e)))) (wfL_take E c2 _) hst
      cases q1
      obtain ⟨i, z, i1, i2, i3, i4, i5, i6⟩ := szPos_ok P hs
      simp only [cellsOf] at q3 q4 q5
      have hnn : Nat.min m len ≤ m := Nat.min_le_left _ _
      have hw : inR .i64 ((Nat.min m len : Nat) : Int) := by
        simp only [many] at hmm
        simp [inR, IntKind.min, IntKind.max, IntKind.signed, IntKind.bits]
        omega
      refine ⟨_, ⟨q5.le, q5.agree, q5.hr, q5.bel, q5.own, hw⟩, ?_⟩
      have hgo : goInt (Nat.min m len) = .int .i64 ((Nat.min m len : Nat) : Int) := by simp [goInt]
      have hst := run_storeCells_at P (loc b).1 off ty' (denL E loc (new.take (Nat.mul (Nat.min m len) (szOf P e)))) 0 cur w q2 (by rw [denL_length]; simpa using q3) q4
      simp only [Nat.add_zero] at hst
      have hsz := szOf_run' P i1 w
      have hfirst : ∀ d : Value, d = y.den E loc → (Builtin.firstCells (szOf P e) (Nat.min m len) d).run P w = .ok (denL E loc (new.take (Nat.mul (Nat.min m len) (szOf P e)))).toArray w ∧ (Builtin.lenOf d).run P w = .ok m w := by
        intro d hd
        subst hd
        rcases c4 with ⟨d1, d2, d3⟩ | ⟨ad, cc, d1, d2⟩
        · have : new = [] := List.eq_nil_of_length_eq_zero (by rw [c1, d2]; simp)
          subst this
          rw [d1]
          exact ⟨by simp [Builtin.firstCells, denL], by simp [Builtin.lenOf, d2]⟩
        · rw [d1]
          refine ⟨?_, by simp [Builtin.lenOf]⟩
          refine run_firstCells_some w _ _ ad m cc _ ?_ ?_
          · rw [denL_length, List.length_take, c1]
            exact Nat.min_eq_left (Nat.mul_le_mul_right _ hnn)
          · intro j u hj
            rw [denL_eq, List.map_take, List.getElem?_take] at hj
            split at hj
            · rw [← denL_eq] at hj; exact d2 j u hj
            · cases hj
      obtain ⟨f1, f2⟩ := hfirst _ rfl
      have ha : (#[Value.slice (some ⟨(loc b).1, off, none⟩) len (c.den loc b), y.den E loc] : Array Value)[0]? = some (Value.slice (some ⟨(loc b).1, off, none⟩) len (c.den loc b)) := rfl
      have hb : (#[Value.slice (some ⟨(loc b).1, off, none⟩) len (c.den loc b), y.den E loc] : Array Value)[1]? = some (y.den E loc) := rfl
      simp only [Builtin.copy_, hts, ha, hb, SV.den, Sem.run_bind, run_underlying he, Result.andThen_ok, f2, hsz, f1, hst, Sem.run_pure, hgo, cellsOf, SE.den]
      rfl
    · cases h

end Sx
end Go.Proofs.YtfdggebddcoeeaaGreatDoor
end
