/-
  Silent operations, third part: parts put together, texts and slices cut, kinds turned; and all of them in one statement.
-/
import Derived.Test.YtfdggebddcoeeaaGreatDoorTyF
import Derived.Great.FillDense
import Derived.Laws.Small
set_option linter.unusedVariables false
set_option linter.unusedSimpArgs false
noncomputable section
namespace Go.Proofs.YtfdggebddcoeeaaGreatDoor
namespace Sx
open Go Go.RowKit
variable (E : Env) (loc : Nat → Nat × Nat) (P : Program) (G : Gl)

/-! parts put in -/
theorem setL_eq : ∀ (l : List SV) (n : Nat) (vs : List SV), n + vs.length ≤ l.length → setL l n vs = l.take n ++ vs ++ l.drop (n + vs.length)
  | l, 0, vs, _ => by cases l <;> simp [setL]
  | [], n + 1, vs, h => by simp at h
  | x :: l, n + 1, vs, h => by
    have := setL_eq l n vs (by simp at h; omega)
    simp only [setL, this, List.take_succ_cons, List.cons_append, show n + 1 + vs.length = (n + vs.length) + 1 by omega, List.drop_succ_cons]
theorem setL_length {l : List SV} {n : Nat} {vs : List SV} (h : n + vs.length ≤ l.length) : (setL l n vs).length = l.length := by
  rw [setL_eq l n vs h]; simp; omega
theorem setL_wf {nx : Nat} {l : List SV} {n : Nat} {vs : List SV} (h : n + vs.length ≤ l.length) (hl : wfL E nx l) (hv : wfL E nx vs) : wfL E nx (setL l n vs) := by
  rw [setL_eq l n vs h]
  exact wfL_append E (wfL_append E (wfL_take E hl n) hv) (wfL_drop E hl _)
theorem setL_one {l : List SV} {n : Nat} {vs : List SV} (h : n + vs.length ≤ l.length) (hl : allOne l = true) (hv : allOne vs = true) : allOne (setL l n vs) = true := by
  rw [setL_eq l n vs h]
  simp only [allOne_append]
  refine ⟨⟨?_, hv⟩, ?_⟩
  · exact (allOne_iff _).2 fun v hv => (allOne_iff l).1 hl v (List.mem_of_mem_take hv)
  · exact (allOne_iff _).2 fun v hv => (allOne_iff l).1 hl v (List.mem_of_mem_drop hv)
theorem setL_den {l : List SV} {n : Nat} {vs : List SV} (h : n + vs.length ≤ l.length) : denL E loc (setL l n vs) = (denL E loc l).take n ++ denL E loc vs ++ (denL E loc l).drop (n + vs.length) := by
  rw [setL_eq l n vs h]
  simp [denL_eq, List.map_take, List.map_drop]
def denP (vs : List (Nat × SV)) : List (Nat × Value) := vs.map fun x => (x.1, x.2.den E loc)
def wfP (nx : Nat) (vs : List (Nat × SV)) : Prop := ∀ x ∈ vs, x.2.wf E nx
theorem fill_step (cells : List SV) (off : Nat) (v : SV) (h : off + (cellsOf v).length ≤ cells.length) :
    ((v.den E loc).cells.zipIdx.foldl (fun cs (x : Value × Nat) => cs.setIfInBounds (off + x.2) x.1) (denL E loc cells).toArray) = (denL E loc (setL cells off (cellsOf v))).toArray := by
  rw [cellsOf_den, ← Array.foldl_toList, Array.toList_zipIdx]
  obtain ⟨g1, g2⟩ := Go.Great.foldl_set off (denL E loc (cellsOf v)) 0 (denL E loc cells).toArray
  apply Array.ext_getElem?
  intro k
  have : ((denL E loc (cellsOf v)).toArray.toList) = denL E loc (cellsOf v) := rfl
  rw [this, g2 k, setL_den E loc h]
  simp only [Nat.add_zero, denL_length, List.size_toArray, List.getElem?_toArray]
  by_cases hk : off ≤ k ∧ k < off + (cellsOf v).length ∧ k < cells.length
  · rw [if_pos hk, List.append_assoc, List.getElem?_append_right (by simp [denL_length]; omega), List.getElem?_append_left (by simp [denL_length]; omega)]
    congr 1
    simp [denL_length]; omega
  · rw [if_neg hk]
    by_cases h1 : k < off
    · rw [List.append_assoc, List.getElem?_append_left (by simp [denL_length]; omega), List.getElem?_take, if_pos h1]
    · rw [List.getElem?_append_right (by simp [denL_length]; omega), List.getElem?_drop]
      simp only [List.length_append, List.length_take, denL_length]
      by_cases h2 : k < off + (cellsOf v).length
      · omega
      · congr 1; omega
theorem fillS_ok {nx : Nat} {pl pl' : Nat → Option (Nat × Nat)} (hpl : ∀ i x, pl i = some x → pl' i = some x) : ∀ {vs : List (Nat × SV)} {cells c : List SV}, fillS pl cells vs = some c → wfL E nx cells → wfP E nx vs →
    Instr.fill pl' (denL E loc cells).toArray (denP E loc vs) = some (denL E loc c).toArray ∧ wfL E nx c := by
  intro vs
  induction vs with
  | nil => intro cells c h hc _; cases h; exact ⟨rfl, hc⟩
  | cons x vs ih =>
    intro cells c h hc hv
    obtain ⟨i, v⟩ := x
    simp only [fillS] at h
    cases hp : pl i with
    | none => rw [hp] at h; cases h
    | some p =>
      obtain ⟨off, size⟩ := p
      rw [hp] at h
      simp only at h
      cases h1 : Nat.beq (cellsOf v).length size <;> rw [h1] at h <;> try (cases h; done)
      cases h2 : Nat.ble (Nat.add off size) cells.length <;> rw [h2] at h <;> try (cases h; done)
      simp only [cond] at h
      have e1 := Nat.eq_of_beq_eq_true h1
      have e2 : off + size ≤ cells.length := Nat.le_of_ble_eq_true h2
      subst e1
      obtain ⟨a1, a2⟩ := ih h (setL_wf E e2 hc (cellsOf_wf E (hv _ List.mem_cons_self))) (fun x hx => hv x (List.mem_cons_of_mem _ hx))
      refine ⟨?_, a2⟩
      simp only [denP, List.map_cons, Instr.fill, hpl _ _ hp]
      have sz : (v.den E loc).cells.size = (cellsOf v).length := by rw [cellsOf_den]; simp [denL_length]
      rw [sz]
      rw [if_neg (by simp [denL_length]; omega)]
      rw [fill_step E loc cells off v e2]
      exact a1
theorem seqParts_ok {n : Nat} {nx : Nat} : ∀ {vs : List (Nat × SV)} {i : Nat} {c : List SV}, seqParts n i vs = some c → wfP E nx vs →
    ∃ us : List SV, vs = (us.zipIdx i).map (fun x => (x.2, x.1)) ∧ (∀ u ∈ us, (cellsOf u).length = n) ∧ c = us.flatMap cellsOf ∧ wfL E nx c := by
  intro vs
  induction vs with
  | nil => intro i c h _; cases h; exact ⟨[], rfl, by simp, rfl, trivial⟩
  | cons x vs ih =>
    intro i c h hv
    obtain ⟨j, v⟩ := x
    simp only [seqParts] at h
    cases h1 : Nat.beq i j <;> rw [h1] at h <;> try (cases h; done)
    cases h2 : Nat.beq (cellsOf v).length n <;> rw [h2] at h <;> try (cases h; done)
    simp only [cond] at h
    cases h3 : seqParts n (i + 1) vs with
    | none => rw [h3] at h; cases h
    | some r =>
      rw [h3] at h
      cases h
      obtain ⟨us, e1, e2, e3, e4⟩ := ih h3 (fun x hx => hv x (List.mem_cons_of_mem _ hx))
      refine ⟨v :: us, ?_, ?_, by simp [e3], wfL_append E (cellsOf_wf E (hv _ List.mem_cons_self)) e4⟩
      · rw [Nat.eq_of_beq_eq_true h1, e1]
        simp [List.zipIdx_cons, Nat.eq_of_beq_eq_true h1]
      · intro u hu
        rcases List.mem_cons.1 hu with rfl | hu
        · exact Nat.eq_of_beq_eq_true h2
        · exact e2 u hu
theorem flatMap_len {n : Nat} {us : List SV} (h : ∀ u ∈ us, (cellsOf u).length = n) : (us.flatMap cellsOf).length = us.length * n := by
  induction us with
  | nil => simp
  | cons u us ih =>
    have := ih fun x hx => h x (List.mem_cons_of_mem _ hx)
    simp [h u List.mem_cons_self, this, Nat.add_mul]; omega
theorem flatMap_den (us : List SV) : (us.map (SV.den E loc)).flatMap (fun v => v.cells.toList) = denL E loc (us.flatMap cellsOf) := by
  induction us with
  | nil => rfl
  | cons u us ih => simp [ih, cellsOf_den, denL_append]
theorem seqP_ok {n : Nat} {nx : Nat} {vs : List (Nat × SV)} {c : List SV} (h : seqP n vs = some c) (hv : wfP E nx vs) (cells : Array Value) (hs : cells.size = c.length) :
    Instr.fill (fun i => some (i * n, n)) cells (denP E loc vs) = some (denL E loc c).toArray ∧ wfL E nx c := by
  unfold seqP at h
  cases hn : Nat.beq n 0 <;> rw [hn] at h <;> try (cases h; done)
  simp only [cond] at h
  have hn' := beq0_false hn
  obtain ⟨us, e1, e2, e3, e4⟩ := seqParts_ok E h hv
  refine ⟨?_, e4⟩
  have hp : denP E loc vs = (((us.map (SV.den E loc)).zipIdx 0).map fun x => (x.2, x.1)) := by
    rw [e1]
    simp only [denP, List.map_map]
    rw [List.zipIdx_map, List.map_map]
    rfl
  rw [hp, Go.Great.fill_whole (by omega) _ cells, flatMap_den, ← e3]
  · intro v hv
    obtain ⟨u, hu, rfl⟩ := List.mem_map.1 hv
    rw [cellsOf_den]; simp [denL_length, e2 u hu]
  · rw [hs, e3, flatMap_len e2]; simp
theorem parts_ok {nx : Nat} {tm : Tr SV} {a : Act} (ht : TRel E loc nx tm a.tmps) : ∀ {l : List (Nat × Operand)} {vs : List (Nat × SV)}, parts tm l = some vs →
    l.map (fun x => (x.1, a.eval x.2)) = denP E loc vs ∧ wfP E nx vs := by
  intro l
  induction l with
  | nil => intro vs h; cases h; exact ⟨rfl, fun x hx => by cases hx⟩
  | cons x l ih =>
    intro vs h
    obtain ⟨i, x⟩ := x
    simp only [parts] at h
    cases hv : opv tm x with
    | none => rw [hv] at h; cases h
    | some v =>
      cases hus : parts tm l with
      | none => rw [hv, hus] at h; cases h
      | some us =>
        rw [hv, hus] at h
        cases h
        obtain ⟨h1, h2⟩ := opv_ok E loc ht hv
        obtain ⟨h3, h4⟩ := ih hus
        refine ⟨by simp [denP, h1] ; simpa [denP] using h3, fun y hy => ?_⟩
        rcases List.mem_cons.1 hy with rfl | hy
        · exact h2
        · exact h4 y hy
theorem ofVals_ok (nx : Nat) : ∀ {l : List Value} {vs : List SV}, ofVals l = some vs → denL E loc vs = l ∧ wfL E nx vs := by
  intro l
  induction l with
  | nil => intro vs h; cases h; exact ⟨rfl, trivial⟩
  | cons x l ih =>
    intro vs h
    simp only [ofVals] at h
    cases hv : ofVal x with
    | none => rw [hv] at h; cases h
    | some v =>
      cases hus : ofVals l with
      | none => rw [hv, hus] at h; cases h
      | some us =>
        rw [hv, hus] at h
        cases h
        obtain ⟨h1, h2⟩ := ofVal_ok E loc hv nx
        obtain ⟨h3, h4⟩ := ih hus
        exact ⟨by simp [denL, h1, h3], h2, h4⟩
theorem zeroOf_ok {t : TypeId} {z : SV} (h : zeroOf P t = some z) (nx : Nat) : ∃ i, P.info? t = some i ∧ i.zero = some (z.den E loc) ∧ z.wf E nx := by
  unfold zeroOf at h
  split at h
  · rename_i i hi
    refine ⟨i, hi, ?_⟩
    split at h
    · rename_i z' hz
      rw [hz]
      split at h
      · rename_i cs
        split at h
        · rename_i l hl
          cases h
          obtain ⟨h1, h2⟩ := ofVals_ok E loc nx hl
          exact ⟨by simp [SV.den, h1], h2⟩
        · cases h
      · obtain ⟨h1, h2⟩ := ofVal_ok E loc h nx
        exact ⟨by rw [h1], h2⟩
    · cases h
  · cases h
theorem places_get : ∀ (l : List Field) (pls : List (Nat × Nat)), l.mapM (fun f : Field => (P.info? f.type).map fun i => (f.offset, i.size)) = some pls →
    ∀ (i : Nat) (x : Nat × Nat), (match (l[i]? : Option Field) with | some f => some (f.offset, szOf P f.type) | none => none) = some x → pls[i]? = some x
  | [], pls, _, i, x, h2 => by simp at h2
  | f :: l, pls, h, i, x, h2 => by
    simp only [List.mapM_cons, Option.bind_eq_bind, Option.pure_def] at h
    cases hi : P.info? f.type with
    | none => simp [hi] at h
    | some j =>
      cases hr : l.mapM (fun f : Field => (P.info? f.type).map fun i => (f.offset, i.size)) with
      | none => simp [hi, hr] at h
      | some rest =>
        simp [hi, hr] at h
        subst h
        cases i with
        | zero => simp at h2 ⊢; rw [← h2]; simp [szOf, hi]
        | succ i => simpa using places_get l rest hr i x (by simpa using h2)

theorem mapM_known : ∀ (l : List Field), allKnown P l = true → ∃ pls, l.mapM (fun f : Field => (P.info? f.type).map fun i => (f.offset, i.size)) = some pls
  | [], _ => ⟨[], rfl⟩
  | f :: l, h => by
    simp only [allKnown] at h
    cases hi : P.info? f.type with
    | none => rw [hi] at h; cases h
    | some i =>
      rw [hi] at h
      obtain ⟨pls, hp⟩ := mapM_known l h
      exact ⟨(f.offset, i.size) :: pls, by simp [List.mapM_cons, hi, hp]⟩
theorem buildV_ok {nx : Nat} {t : TypeId} {vs : List (Nat × SV)} {v : SV} (h : buildV P t vs = some v) (hv : wfP E nx vs) (w : World) :
    (Instr.build t (denP E loc vs).toArray).run P w = .ok (v.den E loc) w ∧ v.wf E nx := by
  unfold buildV at h
  split at h
  · rename_i z hz
    obtain ⟨it, h1, h2, h3⟩ := zeroOf_ok E loc P hz nx
    split at h
    · rename_i fs hu
      cases hk : allKnown P fs.toList <;> rw [hk] at h <;> try (cases h; done)
      simp only [cond] at h
      split at h
      · rename_i c hc
        cases h
        obtain ⟨pls, hp⟩ := mapM_known P fs.toList hk
        have hpl : ∀ (i : Nat) (x : Nat × Nat), (match (fs[i]? : Option Field) with | some f => some (f.offset, szOf P f.type) | none => none) = some x → pls.toArray[i]? = some x := fun i x hx => by
          have := places_get P fs.toList pls hp i x (by simpa using hx)
          simpa using this
        obtain ⟨a1, a2⟩ := fillS_ok E loc hpl hc (cellsOf_wf E h3) hv
        refine ⟨?_, a2⟩
        rw [run_build w t _ (denL E loc c).toArray]
        · rfl
        · simp only [Program.built, h1, hu, h2, hp, cellsOf_den]
          exact a1
      · cases h
    · rename_i len e hu
      split at h
      · rename_i c hc
        cases b1 : Nat.beq c.length (Nat.mul len (szOf P e)) <;> rw [b1] at h <;> try (cases h; done)
        cases b2 : Nat.beq (cellsOf z).length (Nat.mul len (szOf P e)) <;> rw [b2] at h <;> try (cases h; done)
        cases h
        have e1 := Nat.eq_of_beq_eq_true b1
        have e2 := Nat.eq_of_beq_eq_true b2
        have hn : szOf P e ≠ 0 := by
          intro e0
          simp [seqP, e0] at hc
        obtain ⟨a1, a2⟩ := seqP_ok E loc hc hv (z.den E loc).cells (by rw [cellsOf_den]; simp [denL_length]; omega)
        refine ⟨?_, a2⟩
        rw [run_build w t _ (denL E loc c).toArray]
        · rfl
        · cases hie : P.info? e with
          | none => simp [szOf, hie] at hn
          | some ie =>
            have : szOf P e = ie.size := by simp [szOf, hie]
            rw [this] at a1
            simp only [Program.built, h1, hu, h2, hie]
            exact a1
      · cases hk : (P.info? e).isSome <;> rw [hk] at h <;> try (cases h; done)
        simp only [cond] at h
        split at h
        · rename_i c hc
          cases h
          obtain ⟨a1, a2⟩ := fillS_ok E loc (pl' := fun i => some (Nat.mul i (szOf P e), szOf P e)) (fun i x hx => hx) hc (cellsOf_wf E h3) hv
          refine ⟨?_, a2⟩
          cases hie : P.info? e with
          | none => rw [hie] at hk; cases hk
          | some ie =>
            rw [run_build w t _ (denL E loc c).toArray]
            · rfl
            · have : szOf P e = ie.size := by simp [szOf, hie]
              rw [this] at a1
              simp only [Program.built, h1, hu, h2, hie, cellsOf_den]
              exact a1
        · cases h
    · cases h
  · cases h

/-! texts and slices cut -/
theorem bound_ok {nx : Nat} {tm : Tr SV} {a : Act} (ht : TRel E loc nx tm a.tmps) {x : Option Operand} {d n : Nat} (h : bound tm x d = some n) :
    (x = none ∧ n = d) ∨ ∃ y k, x = some y ∧ a.eval y = .int k (n : Int) := by
  unfold bound at h
  cases x with
  | none => cases h; exact .inl ⟨rfl, rfl⟩
  | some y =>
    obtain ⟨k, h1, _⟩ := opN_ok E loc ht h
    exact .inr ⟨y, k, rfl, h1⟩
theorem sliceBounds_ok (b : Bool) (len cap lo hi : Nat) (x y : Option Operand) {nx : Nat} {tm : Tr SV} {a : Act} (ht : TRel E loc nx tm a.tmps) (hx : bound tm x 0 = some lo) (hy : bound tm y len = some hi) (h1 : lo ≤ hi) (h2 : hi ≤ cap) (w : World) :
    (Instr.sliceBounds b len cap (x.map a.eval) (y.map a.eval) none).run P w = .ok (lo, hi, cap) w := by
  have hb : ∀ (k : IntKind) (n m : Nat) (code : BoundsCode), n ≤ m → (Instr.sliceBound (.int k (n : Int)) m code).run P w = .ok n w := fun k n m code h => by
    rw [run_sliceBound w k _ m code (by omega) (by omega), Int.toNat_natCast]
  rcases bound_ok E loc ht hy with ⟨e1, e2⟩ | ⟨y', ky, e1, e2⟩ <;> rcases bound_ok E loc ht hx with ⟨f1, f2⟩ | ⟨x', kx, f1, f2⟩
  · subst e1 e2 f1 f2
    simp [Instr.sliceBounds]
  · subst e1 e2 f1
    simp [Instr.sliceBounds, f2, hb _ _ _ _ h1]
  · subst e1 f1 f2
    simp [Instr.sliceBounds, e2, hb _ _ _ _ h2]
  · subst e1 f1
    simp [Instr.sliceBounds, e2, f2, hb _ _ _ _ h2, hb _ _ _ _ h1]

theorem sz_of_pos {e : TypeId} (h : knownT P e = true) (w : World) : (sizeOf e).run P w = .ok (szOf P e) w := szOf_known P h w
theorem slice_run {t e : TypeId} (hu : P.underlying t = some (.slice e)) (hk : knownT P e = true) (a : Option Addr) (len cap lo hi : Nat) (x y : Option Value) (w : World)
    (hb : (Instr.sliceBounds true len cap x y none).run P w = .ok (lo, hi, cap) w) :
    (Instr.sliceAt t (.slice a len cap) x y none).run P w = .ok (sliced a lo hi cap (szOf P e)) w := by
  have ht : P.underlying t = some (.slice (P.elem t)) := by rw [elem_slice P hu]; exact hu
  rw [run_sliceAt_slice w t _ _ _ _ ht, run_slice_any w t a len cap ht, hb]
  simp only [Result.andThen_ok, elem_slice P hu, szOf_known P hk]
theorem str_take (s : List UInt8) (lo hi : Nat) : (ByteArray.mk s.toArray).extract lo hi = ⟨((s.drop lo).take (hi - lo)).toArray⟩ := by
  apply ByteArray.ext
  simp [ByteArray.data_extract]
theorem sliceStr_ok {t : TypeId} (hs : P.underlying t = some .string) {s : List UInt8} {lo hi : Nat} (x y : Option Value) {w : World}
    (hb : (Instr.sliceBounds false s.length s.length x y none).run P w = .ok (lo, hi, s.length) w) :
    (Instr.sliceAt t (.string ⟨s.toArray⟩) x y none).run P w = .ok (.string ⟨((s.drop lo).take (hi - lo)).toArray⟩) w := by
  rw [run_sliceAt_string w t _ _ _ _ hs]
  have hsz : (ByteArray.mk s.toArray).size = s.length := by simp [ByteArray.size]
  simp only [Instr.slice, Sem.run_bind, run_underlying hs, Result.andThen_ok, Option.isSome_none, Bool.false_eq_true, if_false, hsz, hb, Sem.run_pure, str_take]
theorem capOk_ok {nx : Nat} {hp : Tr SBlk} {w0 : World} (hr : HRel E loc P nx hp w0) {e : TypeId} {b off len d : Nat} (h : capOk hp e (szOf P e) (.sl b off len (.gr d)) = true) : d + len ≤ (loc b).2 := by
  unfold capOk at h
  simp only at h
  split at h
  · rename_i k hk
    obtain ⟨ty, cells, ex, fr⟩ := k
    simp only at h
    cases ex <;> simp only [cond] at h
    · cases h1 : Nat.beq ty e <;> rw [h1] at h <;> try (cases h; done)
      cases h2 : Nat.beq (szOf P e) 0 <;> rw [h2] at h <;> try (cases h; done)
      simp only at h
      have e1 := Nat.eq_of_beq_eq_true h1
      have e2 := beq0_false h2
      have e3 : (d + len) * szOf P e ≤ cells.length := Nat.le_of_ble_eq_true h
      obtain ⟨cur, fz, rest, g1, g2, g3, g4, g5⟩ := hr.rel b _ hk
      obtain ⟨g6, _, _⟩ := g5 rfl
      have g7 : cells.length ≤ cur.size := by
        have := congrArg List.length g3
        simp [denL_length] at this
        omega
      simp only at g6
      rw [g6, e1] at g7
      exact Nat.le_of_mul_le_mul_right (Nat.le_trans e3 g7) (by omega)
    · cases h
  · cases h
theorem sliceV_ok {t e : TypeId} (hu : P.underlying t = some (.slice e)) (hk : knownT P e = true) {nx : Nat} {tm : Tr SV} {a : Act} (ht : TRel E loc nx tm a.tmps) {hp : Tr SBlk} {w0 : World} (hr : HRel E loc P nx hp w0)
    {sv v : SV} {n : Nat} {x y : Option Operand} (hn : lenV sv = some n) (hns : ∀ s, sv ≠ .str s) (hc : capOk hp e (szOf P e) sv = true) (h : sliceV (szOf P e) sv (bound tm x 0) (bound tm y n) = some v) (hw : sv.wf E nx) (w : World) :
    (Instr.sliceAt t (sv.den E loc) (x.map a.eval) (y.map a.eval) none).run P w = .ok (v.den E loc) w ∧ v.wf E nx := by
  cases sv <;> (try (cases hn; done))
  case str s => exact absurd rfl (hns s)
  case nils =>
    cases hn
    simp only [sliceV] at h
    cases hx : bound tm x 0 with
    | none => rw [hx] at h; cases h
    | some lo =>
      cases hy : bound tm y 0 with
      | none => rw [hx, hy] at h; cases h
      | some hi =>
        rw [hx, hy] at h
        simp only at h
        cases b1 : Nat.beq lo 0 <;> rw [b1] at h <;> try (cases h; done)
        cases b2 : Nat.beq hi 0 <;> rw [b2] at h <;> try (cases h; done)
        cases h
        have e1 := Nat.eq_of_beq_eq_true b1
        have e2 := Nat.eq_of_beq_eq_true b2
        subst e1 e2
        refine ⟨?_, trivial⟩
        have hb := sliceBounds_ok E loc P true 0 0 0 0 x y ht hx hy (Nat.le_refl _) (Nat.le_refl _) w
        have := slice_run P hu hk none 0 0 0 0 _ _ w hb
        simpa [sliced, SV.den] using this
  case sl b off len c =>
    cases hn
    simp only [sliceV] at h
    cases hx : bound tm x 0 with
    | none => rw [hx] at h; cases h
    | some lo =>
      cases hy : bound tm y n with
      | none => rw [hx, hy] at h; cases h
      | some hi =>
        rw [hx, hy] at h
        simp only at h
        cases c with
        | ex c =>
          simp only at h
          cases b1 : Nat.ble lo hi <;> rw [b1] at h <;> try (cases h; done)
          cases b2 : Nat.ble hi c <;> rw [b2] at h <;> try (cases h; done)
          cases h
          have e1 := Nat.le_of_ble_eq_true b1
          have e2 := Nat.le_of_ble_eq_true b2
          refine ⟨?_, hw⟩
          have hb := sliceBounds_ok E loc P true n c lo hi x y ht hx hy e1 e2 w
          have := slice_run P hu hk (some ⟨(loc b).1, off, none⟩) n c lo hi _ _ w hb
          simp only [SV.den, Cap.den]
          rw [this]
          cases b3 : Nat.beq c lo
          · have : c ≠ lo := fun e => by rw [e, Nat.beq_refl] at b3; cases b3
            simp [sliced, this, add_plain']
          · have := Nat.eq_of_beq_eq_true b3
            simp [sliced, this]
        | gr d =>
          simp only at h
          have hcap := capOk_ok E loc P hr hc
          cases b1 : Nat.ble lo hi <;> rw [b1] at h <;> try (cases h; done)
          cases b2 : Nat.ble hi n <;> rw [b2] at h <;> try (cases h; done)
          have e1 := Nat.le_of_ble_eq_true b1
          have e2 := Nat.le_of_ble_eq_true b2
          have hb := sliceBounds_ok E loc P true n ((loc b).2 - d) lo hi x y ht hx hy e1 (by omega) w
          have := slice_run P hu hk (some ⟨(loc b).1, off, none⟩) n _ lo hi _ _ w hb
          simp only [cond] at h
          cases b3 : Nat.beq lo 0 <;> rw [b3] at h
          · simp only at h
            cases b4 : Nat.blt lo n <;> rw [b4] at h <;> try (cases h; done)
            cases h
            have e4 := blt_lt b4
            refine ⟨?_, hw⟩
            simp only [SV.den, Cap.den]
            rw [this]
            have : ¬ (loc b).2 - d = lo := by omega
            simp [sliced, this, add_plain']
            omega
          · cases h
            have e3 := Nat.eq_of_beq_eq_true b3
            subst e3
            refine ⟨?_, hw⟩
            simp only [SV.den, Cap.den]
            rw [this]
            simp [sliced, add_plain']

/-! kinds turned -/
theorem convV_ok {src dst : TypeId} {x v : SV} (h : convV P src dst x = some v) (w : World) : (convert src dst (x.den E loc)).run P w = .ok (v.den E loc) w ∧ v.wf E 0 := by
  cases x <;> simp only [convV] at h <;> try (cases h; done)
  case int k e =>
    split at h
    · rename_i k1 hs
      split at h
      · rename_i k2 hd
        cases h
        refine ⟨?_, by simp only [SV.wf, mkWrap_den]; exact inR_wrap _ _⟩
        simp only [SV.den, convert, Sem.run_bind, run_underlying hs, run_underlying hd, Result.andThen_ok, mkWrap_den]
        rfl
      · cases h
    · cases h
  case str s =>
    cases hs : strT P src <;> rw [hs] at h <;> try (cases h; done)
    cases hd : strT P dst <;> rw [hd] at h <;> try (cases h; done)
    cases h
    refine ⟨?_, trivial⟩
    simp only [SV.den, convert, Sem.run_bind, run_underlying (strT_ok P hs), run_underlying (strT_ok P hd), Result.andThen_ok, Sem.run_pure]

end Sx
end Go.Proofs.YtfdggebddcoeeaaGreatDoor
end
