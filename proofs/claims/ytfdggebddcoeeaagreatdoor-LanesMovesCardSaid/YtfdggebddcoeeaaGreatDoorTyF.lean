/-
  Silent operations, second part: memory is read, values are taken apart and put together.
-/
import Derived.Test.YtfdggebddcoeeaaGreatDoorTyE
set_option linter.unusedVariables false
set_option linter.unusedSimpArgs false
noncomputable section
namespace Go.Proofs.YtfdggebddcoeeaaGreatDoor
namespace Sx
open Go Go.RowKit
variable (E : Env) (loc : Nat → Nat × Nat) (P : Program) (G : Gl)

theorem bindV_ok {o : Option SV} {f : SV → Option SV} {v : SV} (h : bindV o f = some v) : ∃ x, o = some x ∧ f x = some v := by
  cases o with
  | none => cases h
  | some x => exact ⟨x, rfl, h⟩
theorem wfL_get {nx : Nat} {l : List SV} (h : wfL E nx l) {i : Nat} {v : SV} (hv : l[i]? = some v) : v.wf E nx :=
  (wfL_iff E nx l).1 h v (List.mem_of_getElem? hv)
theorem wfL_drop {nx : Nat} {l : List SV} (h : wfL E nx l) (n : Nat) : wfL E nx (l.drop n) :=
  (wfL_iff E nx _).2 fun v hv => (wfL_iff E nx l).1 h v (List.mem_of_mem_drop hv)
theorem wfL_take {nx : Nat} {l : List SV} (h : wfL E nx l) (n : Nat) : wfL E nx (l.take n) :=
  (wfL_iff E nx _).2 fun v hv => (wfL_iff E nx l).1 h v (List.mem_of_mem_take hv)
theorem wfL_append {nx : Nat} {l m : List SV} (h : wfL E nx l) (h' : wfL E nx m) : wfL E nx (l ++ m) :=
  (wfL_iff E nx _).2 fun v hv => (List.mem_append.1 hv).elim ((wfL_iff E nx l).1 h v) ((wfL_iff E nx m).1 h' v)
theorem wf_any {v : SV} (h : v.wf E 0) (nx : Nat) : v.wf E nx := SV.wf_mono E (Nat.zero_le nx) v h

/-! types -/
theorem szOf_run {t : TypeId} (h : szOf P t ≠ 0) (w : World) : (sizeOf t).run P w = .ok (szOf P t) w := by
  unfold szOf at *
  cases hi : P.info? t with
  | none => simp [hi] at h
  | some i => simp [sizeOf, typeInfo, hi]
theorem szOf_run' {t : TypeId} {i : TypeInfo} (h : P.info? t = some i) (w : World) : (sizeOf t).run P w = .ok (szOf P t) w := by
  simp [sizeOf, typeInfo, h, szOf]
theorem szOf_known {t : TypeId} (h : knownT P t = true) (w : World) : (sizeOf t).run P w = .ok (szOf P t) w := by
  cases hi : P.info? t with
  | none => simp [knownT, Program.underlying, hi] at h
  | some i => exact szOf_run' P hi w
theorem isAggT_known {t : TypeId} (h : isAggT P t = true) : knownT P t = true := by
  unfold isAggT at h
  unfold knownT
  split at h <;> simp_all
theorem isAgg_run {t : TypeId} (h : knownT P t = true) (w : World) : (isAgg t).run P w = .ok (isAggT P t) w := by
  unfold knownT at h
  obtain ⟨d, hd⟩ := Option.isSome_iff_exists.1 h
  simp only [isAgg, Sem.run_bind, run_underlying hd, Result.andThen_ok, isAggT, hd]
  cases d <;> rfl
theorem elemOf'_ok {t e : TypeId} (h : elemOf' P t = some e) : P.underlying t = some (.slice e) := by
  unfold elemOf' at h
  split at h
  · rename_i e' hu; cases h; exact hu
  · cases h
theorem arrOf_ok {t e : TypeId} {n : Nat} (h : arrOf P t = some (n, e)) : P.underlying t = some (.array n e) := by
  unfold arrOf at h
  split at h
  · rename_i n' e' hu; cases h; exact hu
  · cases h
theorem strT_ok {t : TypeId} (h : strT P t = true) : P.underlying t = some .string := by
  unfold strT at h
  split at h
  · assumption
  · cases h
theorem fieldAt'_ok {t : TypeId} {i : Nat} {f : Field} (h : fieldAt' P t i = some f) : ∃ fs, P.underlying t = some (.struct fs) ∧ fs[i]? = some f := by
  unfold fieldAt' at h
  split at h
  · rename_i fs hu; exact ⟨fs, hu, h⟩
  · cases h
theorem elem_slice {t e : TypeId} (h : P.underlying t = some (.slice e)) : P.elem t = e := by simp [Program.elem, h]
theorem add_plain' (g j n : Nat) : (⟨g, j, none⟩ : Addr).add n = ⟨g, j + n, none⟩ := by unfold Addr.add; split <;> simp_all

/-! parts -/
theorem partS_ok {nx : Nat} {t : TypeId} {cs : List SV} {off : Nat} {v : SV} (h : partS P t cs off = some v) (hw : wfL E nx cs) (w : World) :
    (part t (denL E loc cs).toArray off).run P w = .ok (v.den E loc) w ∧ v.wf E nx := by
  unfold partS at h
  cases ha : isAggT P t <;> rw [ha] at h
  · cases hk : knownT P t <;> rw [hk] at h
    · cases h
    · simp only [cond] at h
      refine ⟨?_, wfL_get E hw h⟩
      simp only [part, Sem.run_bind, isAgg_run P hk, ha, Result.andThen_ok, Bool.false_eq_true, if_false, getElem?_denL E loc h, Sem.run_pure]
  · have hk := isAggT_known P ha
    cases hb : Nat.ble (Nat.add off (szOf P t)) cs.length <;> rw [hb] at h
    · cases h
    · cases h
      refine ⟨?_, wfL_take E (wfL_drop E hw _) _⟩
      simp only [part, Sem.run_bind, isAgg_run P hk, ha, Result.andThen_ok, if_true, szOf_known P hk, Sem.run_pure, SV.den]
      congr 2
      apply Array.ext'
      simp [denL_eq, List.map_take, List.map_drop]
theorem globs_ok {w : World} (hg : GOk E G w) {g : Nat} : ∀ {n off : Nat} {l : List SV}, globs G g n off = some l →
    l.length = n ∧ (∀ j v, l[j]? = some v → w.cell? ⟨g, off + j, none⟩ = some (v.den E loc) ∧ v.wf E 0) := by
  intro n
  induction n with
  | zero => intro off l h; cases h; exact ⟨rfl, fun j v hj => by simp at hj⟩
  | succ n ih =>
    intro off l h
    simp only [globs] at h
    cases hv : (G.tab g).get off with
    | none => rw [hv] at h; cases h
    | some v =>
      cases hl : globs G g n (off + 1) with
      | none => rw [hv, hl] at h; cases h
      | some l' =>
        rw [hv, hl] at h
        cases h
        obtain ⟨h1, h2⟩ := ih hl
        refine ⟨by simp [h1], fun j u hj => ?_⟩
        cases j with
        | zero =>
          simp at hj
          subst hj
          obtain ⟨a1, a2, _⟩ := hg.2 g off v hv
          exact ⟨a1 loc, a2⟩
        | succ j =>
          have := h2 j u hj
          rwa [show off + 1 + j = off + (j + 1) by omega] at this
theorem brel_cell {w : World} {b : Nat} {k : SBlk} (h : BRel E loc P w b k) {j : Nat} {v : SV} (hj : k.cells[j]? = some v) : w.cell? ⟨(loc b).1, j, none⟩ = some (v.den E loc) := by
  obtain ⟨cur, fz, rest, h1, _, h3, _⟩ := h
  simp only [World.cell?, h1]
  have : cur.toList[j]? = some (v.den E loc) := by
    rw [h3, List.getElem?_append_left (by rw [denL_length]; exact (List.getElem?_eq_some_iff.1 hj).1), denL_eq, List.getElem?_map, hj]
    rfl
  simpa using this
theorem loadN_ok {nx : Nat} {hp : Tr SBlk} {w : World} (hr : HRel E loc P nx hp w) (hg : GOk E G w) {x : SV} {n : Nat} {l : List SV} (h : loadN G hp x n = some l) :
    ∃ ad, x.den E loc = .pointer (some ad) ∧ l.length = n ∧ wfL E nx l ∧ ∀ j v, l[j]? = some v → w.cell? (ad.add j) = some (v.den E loc) := by
  cases x <;> simp only [loadN] at h <;> try (cases h; done)
  case ptr b off =>
    cases hb : hp.get b with
    | none => rw [hb] at h; cases h
    | some k =>
      rw [hb] at h
      simp only at h
      cases hl : Nat.ble (Nat.add off n) k.cells.length <;> rw [hl] at h
      · cases h
      · cases h
        have hle : off + n ≤ k.cells.length := Nat.le_of_ble_eq_true hl
        refine ⟨⟨(loc b).1, off, none⟩, rfl, by simp; omega, wfL_take E (wfL_drop E (hr.wf b k hb) _) _, fun j v hj => ?_⟩
        rw [add_plain']
        apply brel_cell E loc P (hr.rel b k hb)
        rw [List.getElem?_take] at hj
        split at hj
        · rwa [List.getElem?_drop] at hj
        · cases hj
  case gptr g off =>
    obtain ⟨h1, h2⟩ := globs_ok E loc G hg h
    refine ⟨⟨g, off, none⟩, rfl, h1, (wfL_iff E nx l).2 fun v hv => ?_, fun j v hj => ?_⟩
    · obtain ⟨j, hj⟩ := List.getElem?_of_mem hv
      exact wf_any E (h2 j v hj).2 nx
    · rw [add_plain']; exact (h2 j v hj).1
theorem loadS_ok {nx : Nat} {hp : Tr SBlk} {w : World} (hr : HRel E loc P nx hp w) (hg : GOk E G w) {t : TypeId} {x v : SV} (h : loadS P G hp t x = some v) :
    (Instr.loadAt t (x.den E loc)).run P w = .ok (v.den E loc) w ∧ v.wf E nx := by
  unfold loadS at h
  cases ha : isAggT P t <;> rw [ha] at h
  · cases hk : knownT P t <;> rw [hk] at h
    · cases h
    · simp only [cond] at h
      cases hl : loadN G hp x 1 with
      | none => rw [hl] at h; cases h
      | some l =>
        rw [hl] at h
        obtain ⟨ad, h1, h2, h3, h4⟩ := loadN_ok E loc P G hr hg hl
        match l, h with
        | [u], h =>
          cases h
          refine ⟨?_, h3.1⟩
          have hc := h4 0 v rfl
          have e0 : ad.add 0 = ad := rfl
          rw [e0] at hc
          simp only [Instr.loadAt, h1, Instr.sureAddr, Sem.run_bind, Sem.run_pure, Result.andThen_ok, loadVar, isAgg_run P hk, ha, Bool.false_eq_true, if_false, run_load, hc]
  · have hk := isAggT_known P ha
    simp only [cond] at h
    cases hl : loadN G hp x (szOf P t) with
    | none => rw [hl] at h; cases h
    | some l =>
      rw [hl] at h
      cases h
      obtain ⟨ad, h1, h2, h3, h4⟩ := loadN_ok E loc P G hr hg hl
      refine ⟨?_, h3⟩
      have hrun := run_loadCells_list (P := P) w ad (denL E loc l) (fun j v hj => by
        rw [denL_eq, List.getElem?_map] at hj
        cases hu : l[j]? with
        | none => rw [hu] at hj; cases hj
        | some u => rw [hu] at hj; cases hj; exact h4 j u hu)
      rw [denL_length, h2] at hrun
      simp only [Instr.loadAt, h1, Instr.sureAddr, Sem.run_bind, Sem.run_pure, Result.andThen_ok, loadVar, isAgg_run P hk, ha, if_true, szOf_known P hk, hrun, SV.den]

/-! addresses -/
theorem offV_ok {x v : SV} {n : Nat} (h : offV x n = some v) {nx : Nat} (hw : x.wf E nx) : ∃ ad, x.den E loc = .pointer (some ad) ∧ v.den E loc = .pointer (some (ad.add n)) ∧ v.wf E nx := by
  cases x <;> simp only [offV] at h <;> try (cases h; done)
  · cases h; exact ⟨_, rfl, by rw [add_plain']; rfl, hw⟩
  · cases h; exact ⟨_, rfl, by rw [add_plain']; rfl, trivial⟩
theorem beq0_false {n : Nat} (h : Nat.beq n 0 = false) : n ≠ 0 := fun e => by rw [e] at h; cases h
theorem fieldAddr_ok {t : TypeId} {i : Nat} {f : Field} (hf : fieldAt' P t i = some f) (hs : Nat.beq (szOf P f.type) 0 = false) {x v : SV} (h : offV x f.offset = some v) {nx : Nat} (hw : x.wf E nx) (w : World) :
    (Instr.fieldAt t (x.den E loc) i).run P w = .ok (v.den E loc) w ∧ v.wf E nx := by
  obtain ⟨fs, hu, hi⟩ := fieldAt'_ok P hf
  obtain ⟨ad, h1, h2, h3⟩ := offV_ok E loc h hw
  refine ⟨?_, h3⟩
  simp only [Instr.fieldAt, Sem.run_bind, run_underlying hu, Result.andThen_ok, hi, h1, Instr.sureAddr, Sem.run_pure, fieldPlace, szOf_run P (beq0_false hs), if_neg (beq0_false hs), h2]
theorem blt_lt {a b : Nat} (h : Nat.blt a b = true) : a < b := by simpa [Nat.blt_eq] using h
theorem idxAddr_ok {t : TypeId} {x v : SV} {i : Nat} (h : idxAddr P t x i = some v) {nx : Nat} (hw : x.wf E nx) (k : IntKind) (w : World) :
    (Instr.indexAt t (x.den E loc) (.int k (i : Int))).run P w = .ok (v.den E loc) w ∧ v.wf E nx := by
  unfold idxAddr at h
  cases he : elemOf' P t with
  | some e =>
    rw [he] at h
    have hu := elemOf'_ok P he
    cases x <;> (try simp only at h) <;> try (cases h; done)
    rename_i b off len c
    cases hb : Nat.blt i len <;> rw [hb] at h <;> try (cases h; done)
    cases hk : knownT P e <;> rw [hk] at h <;> try (cases h; done)
    cases h
    have hlt := blt_lt hb
    refine ⟨?_, hw⟩
    have hin : (0 : Int) ≤ (i : Int) ∧ (i : Int) < (len : Int) := by omega
    simp only [SV.den]
    rw [run_indexAt_slice w t _ _ _ k _ (by rw [elem_slice P hu]; exact hu), if_pos hin, elem_slice P hu, szOf_known P hk, Result.andThen_ok, add_plain', Int.toNat_natCast]
    rfl
  | none =>
    rw [he] at h
    simp only at h
    cases hr : arrOf P t with
    | none => rw [hr] at h; cases h
    | some r =>
      obtain ⟨n, e⟩ := r
      rw [hr] at h
      simp only at h
      have hu := arrOf_ok P hr
      cases hb : Nat.blt i n <;> rw [hb] at h <;> try (cases h; done)
      cases hk : knownT P e <;> rw [hk] at h <;> try (cases h; done)
      obtain ⟨ad, h1, h2, h3⟩ := offV_ok E loc h hw
      refine ⟨?_, h3⟩
      have hlt := blt_lt hb
      have hin : (0 : Int) ≤ (i : Int) ∧ (i : Int) < (n : Int) := by omega
      have e1 : P.elem t = e := by simp [Program.elem, hu]
      have e2 : P.arrayLen t = n := by simp [Program.arrayLen, hu]
      rw [h1, run_indexAt_array w t ad k _ (by rw [e1, e2]; exact hu), e2, if_pos hin, e1, szOf_known P hk, Result.andThen_ok, h2, Int.toNat_natCast]
      rfl
theorem idxV_ok {t : TypeId} {x v : SV} {i : Nat} (h : idxV P t x i = some v) {nx : Nat} (hw : x.wf E nx) (k : IntKind) (w : World) :
    (Instr.index t (x.den E loc) (.int k (i : Int))).run P w = .ok (v.den E loc) w ∧ v.wf E nx := by
  cases x <;> simp only [idxV] at h <;> try (cases h; done)
  case str s =>
    cases hs : strT P t <;> rw [hs] at h <;> try (cases h; done)
    have hu := strT_ok P hs
    simp only [cond] at h
    cases hc : s[i]? with
    | none => rw [hc] at h; cases h
    | some c =>
      rw [hc] at h
      cases h
      have hlt : i < s.length := (List.getElem?_eq_some_iff.1 hc).1
      have hcc : s[i] = c := (List.getElem?_eq_some_iff.1 hc).2
      refine ⟨?_, ?_⟩
      · have h0 : (0 : Int) ≤ (i : Int) := by omega
        simp only [SV.den, Instr.index, asIntOf, Sem.run_bind, Sem.run_pure, Result.andThen_ok, run_underlying hu, if_pos h0, Int.toNat_natCast]
        have e1 : (ByteArray.mk s.toArray)[i]? = some c := by
          have hsz : i < (ByteArray.mk s.toArray).size := by simpa [ByteArray.size] using hlt
          rw [getElem?_pos _ i hsz]
          congr 1
        rw [e1]
        rfl
      · show inR .u8 _
        have := c.toNat_lt
        simp [inR, IntKind.min, IntKind.max, IntKind.signed, IntKind.bits, SE.den]
        omega
  case agg cs =>
    cases hr : arrOf P t with
    | none => rw [hr] at h; cases h
    | some r =>
      obtain ⟨n, e⟩ := r
      rw [hr] at h
      simp only at h
      have hu := arrOf_ok P hr
      cases hb : Nat.blt i n <;> rw [hb] at h <;> try (cases h; done)
      cases hk : knownT P e <;> rw [hk] at h <;> try (cases h; done)
      simp only [cond] at h
      obtain ⟨h1, h2⟩ := partS_ok E loc P h hw w
      refine ⟨?_, h2⟩
      have hlt := blt_lt hb
      have hin : (0 : Int) ≤ (i : Int) ∧ (i : Int) < (n : Int) := by omega
      simp only [SV.den, Instr.index, asIntOf, Sem.run_bind, Sem.run_pure, Result.andThen_ok, run_underlying hu, if_pos hin, szOf_known P hk, Int.toNat_natCast]
      exact h1

/-! a choice, a sign, a test on nil -/
theorem pickV_ok {nx : Nat} {tm : Tr SV} {a : Act} (ht : TRel E loc nx tm a.tmps) {c x y : Operand} {v : SV} (h : pickV tm c x y = some v) :
    ∃ t : Bool, a.eval c = .bool t ∧ (if t = true then a.eval x else a.eval y) = v.den E loc ∧ v.wf E nx := by
  unfold pickV at h
  cases hc : opv tm c with
  | none => rw [hc] at h; cases h
  | some cv =>
    rw [hc] at h
    obtain ⟨c1, c2⟩ := opv_ok E loc ht hc
    cases cv <;> (try simp only at h) <;> try (cases h; done)
    rename_i e
    have gen : ∀ e : SE, a.eval c = .bool (decide (e.den E ≠ 0)) → (match opv tm x with
        | some x => match opv tm y with
          | some y => match x with
            | .bool x => match y with
              | .bool y => some (SV.bool (mkIte e x y))
              | _ => none
            | .int k x => match y with
              | .int l y => cond (decide (k = l)) (some (.int k (mkIte e x y))) none
              | _ => none
            | _ => none
          | none => none
        | none => none) = some v → ∃ t : Bool, a.eval c = .bool t ∧ (if t = true then a.eval x else a.eval y) = v.den E loc ∧ v.wf E nx := by
      intro e he h
      refine ⟨_, he, ?_⟩
      cases hx : opv tm x with
      | none => rw [hx] at h; cases h
      | some xv =>
        cases hy : opv tm y with
        | none => rw [hx, hy] at h; cases h
        | some yv =>
          rw [hx, hy] at h
          obtain ⟨x1, x2⟩ := opv_ok E loc ht hx
          obtain ⟨y1, y2⟩ := opv_ok E loc ht hy
          rw [x1, y1]
          cases xv <;> (try simp only at h) <;> try (cases h; done)
          case bool p =>
            cases yv <;> (try simp only at h) <;> try (cases h; done)
            rename_i q
            cases h
            refine ⟨?_, trivial⟩
            simp only [SV.den, mkIte_den]
            by_cases z : e.den E = 0 <;> simp [z]
          case int k p =>
            cases yv <;> (try simp only at h) <;> try (cases h; done)
            rename_i l q
            by_cases hkl : k = l
            · subst hkl
              simp only [decide_true, cond] at h
              cases h
              refine ⟨?_, ?_⟩
              · simp only [SV.den, mkIte_den]
                by_cases z : e.den E = 0 <;> simp [z]
              · simp only [SV.wf, mkIte_den]
                split
                · exact y2
                · exact x2
            · simp [hkl] at h
    cases e <;> try exact gen _ c1 h
    rename_i n
    simp only at h
    simp only [SV.den, SE.den] at c1
    refine ⟨_, c1, ?_⟩
    cases hn : int0 n <;> rw [hn] at h <;> simp only [cond] at h
    · have : n ≠ 0 := fun e => by rw [(int0_iff n).2 e] at hn; cases hn
      obtain ⟨x1, x2⟩ := opv_ok E loc ht h
      simp [this, x1, x2]
    · have : n = 0 := (int0_iff n).1 hn
      obtain ⟨x1, x2⟩ := opv_ok E loc ht h
      simp [this, x1, x2]
theorem unV_ok {u : UnOp} {x v : SV} (h : unV u x = some v) (w : World) : (Op.unary u (x.den E loc)).run P w = .ok (v.den E loc) w ∧ v.wf E 0 := by
  cases u <;> simp only [unV] at h <;> try (cases h; done)
  case neg =>
    cases x <;> (try simp only at h) <;> try (cases h; done)
    cases h
    refine ⟨?_, by simp only [SV.wf, mkWrap_den]; exact inR_wrap _ _⟩
    simp [SV.den, Op.unary, Op.intArith, mkWrap_den, mkSub_den, SE.den]
  case xor =>
    cases x <;> (try simp only at h) <;> try (cases h; done)
    rename_i k e
    cases h
    refine ⟨?_, by simp only [SV.wf, mkBit_den]; exact inR_bitsI _ _ _ _⟩
    have e1 : (cond k.signed (-1) k.max : Int) = if k.signed = true then -1 else k.max := by cases k.signed <;> rfl
    simp only [SV.den, Op.unary, intBits_xor, Sem.run_pure, mkBit_den, SE.den, bits_eq, e1]
  case not =>
    cases x <;> (try simp only at h) <;> try (cases h; done)
    rename_i e
    cases h
    refine ⟨?_, trivial⟩
    simp only [SV.den, Op.unary, Sem.run_pure, mkNot_den]
    by_cases z : e.den E = 0 <;> simp [z]

end Sx
end Go.Proofs.YtfdggebddcoeeaaGreatDoor
end
