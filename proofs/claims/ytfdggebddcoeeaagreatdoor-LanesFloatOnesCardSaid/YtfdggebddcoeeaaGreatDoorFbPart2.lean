/-
  A part of the proof.
-/
import Derived.LoopN
import Derived.Test.YtfdggebddcoeeaaGreatDoorRows
import Derived.ProofKit
import Derived.OpenShut
import Derived.LaidMore
import Derived.Lay
import Derived.ChangeSame
import Derived.ChangeVars
import Derived.JoinedOf
import Derived.RowKit
import Derived.Lib.SmallJoins
import Derived.KernelRfl
import Derived.MapKept
import Derived.WideMake
import Derived.Laws.NewFold
import Derived.Lib.Bytealg
import Derived.Test.YtfdggebddcoeeaaGreatDoorFbPart1
set_option linter.unusedVariables false
set_option linter.unusedSimpArgs false
/-
  All operations that write, in one statement.
-/
noncomputable section
namespace Go.Proofs.YtfdggebddcoeeaaGreatDoor
namespace Sx
open Go Go.RowKit
variable (E : Env) (loc : Nat → Nat × Nat) (P : Program) (G : Gl)

theorem wrt_ok {lo B nx nx' : Nat} {hp hp' : Tr SBlk} {w : World} {tm : Tr SV} {a : Act} (ht : TRel E loc nx tm a.tmps) (hr : HRel E loc P nx hp w) (ho : Own loc lo B nx) (hB : B ≤ w.heap.size) {o : Oper} {v : SV}
    {f : Nat → Tr SV → Tr SBlk → Nat → Option (SV × Tr SBlk × Nat)} (hc : cls P G o.op = .wrt f) (h : f lo tm hp nx = some (v, hp', nx')) :
    ∃ w' loc', Step E loc P B lo nx nx' hp' w v loc' w' ∧ ((execOp a.eval o).run P w = .ok (.value (v.den E loc')) w' ∨ ((execOp a.eval o).run P w = .ok .skip w' ∧ v.den E loc' = undef)) := by
  unfold execOp
  cases hop : o.op <;> rw [hop] at hc <;> simp only [cls] at hc <;> (try (cases hc; done))
  case store t x y =>
    cases hc
    dsimp only at h
    split at h
    · rename_i x' hx
      split at h
      · rename_i y' hy
        cases h1 : (and (knownT P t) (Nat.beq (cellsOf y').length (szOf P t))) <;> rw [h1] at h <;> try (cases h; done)
        rw [Bool.cond_true] at h
        obtain ⟨k1, k2⟩ := (Bool.and_eq_true _ _).mp h1
        split at h
        · rename_i hp1 hst
          cases h
          obtain ⟨a1, a2⟩ := opv_ok E loc ht hx
          obtain ⟨b1, b2⟩ := opv_ok E loc ht hy
          obtain ⟨b, off, cur, ty, q1, q2, q3, q4, q5⟩ := storeV_ok E loc P hr ho b2 hst
          subst q1
          refine ⟨_, loc, q5, .inr ⟨?_, by simp [SV.den, denL, undef]⟩⟩
          have hst := run_storeCells_at P (loc b).1 off ty (denL E loc (cellsOf y')) 0 cur w q2 (by rw [denL_length]; simpa using q3) q4
          simp only [Nat.add_zero] at hst
          have hsz := szOf_known P k1 w
          have e2 : ¬ (y'.den E loc).cells.size ≠ szOf P t := by
            rw [cellsOf_den]; simp [denL_length]; exact Nat.eq_of_beq_eq_true k2
          have hcl : (y'.den E loc).cells.toList = denL E loc (cellsOf y') := by rw [cellsOf_den]
          simp only [a1, b1, SV.den, Instr.storeAt, Instr.sureAddr, storeVar, Sem.run_bind, Sem.run_pure, Result.andThen_ok, hsz, if_neg e2, hcl, hst]
        · cases h
      · cases h
    · cases h
  case makeFunc fn first caps =>
    cases fn <;> simp only at hc <;> try (cases hc; done)
    split at hc <;> cases hc
  case convert src dst x =>
    split at hc
    · rename_i e he
      cases k1 : strT P src <;> rw [k1] at hc <;> (try (cases hc; done)) <;> cases k2 : Nat.beq (descKind P e) 5 <;> rw [k2] at hc <;> (try (cases hc; done)) <;> cases k3 : Nat.beq (szOf P e) 1 <;> rw [k3] at hc <;> (cases hc; done)
    · cases hc
  case makeSlice t l c =>
    split at hc
    · rename_i e he
      cases k1 : szPos P e <;> rw [k1] at hc <;> cases hc
    · cases hc
  case buildSlice t n ps =>
    split at hc
    · rename_i e he
      cases h5 : (and (szPos P e) (Nat.ble (Nat.mul n (szOf P e)) many)) <;> rw [h5] at hc <;> cases hc
    · cases hc
  case slice t x lo hi m =>
    cases m with
    | some m => cases hc
    | none =>
      simp only at hc
      cases he : elemOf' P t <;> rw [he] at hc
      · cases hs : strT P t <;> rw [hs] at hc <;> cases hc
      · cases hc
  case fieldAddr t x i =>
    split at hc
    · rename_i fl hf
      cases hz : Nat.beq (szOf P fl.type) 0 <;> rw [hz] at hc <;> cases hc
    · cases hc
  case field t x i =>
    split at hc <;> cases hc
  case call c =>
    obtain ⟨callee, args, ts⟩ := c
    cases callee <;> simp only at hc <;> try (cases hc; done)
    rename_i b
    have hargs : ∀ {l}, opsv tm args.toList = some l → args.map a.eval = (denL E loc l).toArray ∧ wfL E nx l := fun hl => by
      obtain ⟨a1, a2⟩ := opsv_ok E loc ht hl
      exact ⟨Array.ext' (by rw [Array.toList_map, a1]), a2⟩
    cases b <;> simp only [builtinC] at hc <;> (try (cases hc; done))
    case append =>
      cases hc
      dsimp only at h
      split at h
      · rename_i l hl
        obtain ⟨e1, e2⟩ := hargs hl
        split at h
        · rename_i x y
          split at h
          · rename_i t u hts
            cases h1 : Nat.beq t u <;> rw [h1] at h <;> try (cases h; done)
            rw [Bool.cond_true] at h
            have e3 := Nat.eq_of_beq_eq_true h1
            subst e3
            split at h
            · rename_i e he
              cases h2 : szPos P e <;> rw [h2] at h <;> try (cases h; done)
              rw [Bool.cond_true] at h
              obtain ⟨w', loc', s1, s2⟩ := appV_ok E loc P hr ho hB o.type (elemOf'_ok P he) h2 h
              have hts' : ts = #[t, t] := Array.ext' (by rw [hts])
              refine ⟨w', loc', s1, .inl ?_⟩
              simp only [resolve, invoke, builtin, Sem.run_bind, Sem.run_pure, Result.andThen_ok, e1, denL, hts', s2]
            · cases h
          · cases h
        · cases h
      · cases h
    case copy =>
      cases hc
      dsimp only at h
      split at h
      · rename_i l hl
        obtain ⟨e1, e2⟩ := hargs hl
        split at h
        · rename_i x y
          split at h
          · rename_i t hts
            split at h
            · rename_i e he
              cases h2 : szPos P e <;> rw [h2] at h <;> try (cases h; done)
              rw [Bool.cond_true] at h
              obtain ⟨w', s1, s2⟩ := copyV_ok E loc P (ty := o.type) hr ho (elemOf'_ok P he) h2 h ts hts
              refine ⟨w', loc, s1, .inl ?_⟩
              simp only [resolve, invoke, builtin, Sem.run_bind, Sem.run_pure, Result.andThen_ok, e1, denL, s2]
            · cases h
          · cases h
        · cases h
      · cases h

end Sx
end Go.Proofs.YtfdggebddcoeeaaGreatDoor
end

/-
  A state of a function, outcomes, one operation.
-/
noncomputable section
namespace Go.Proofs.YtfdggebddcoeeaaGreatDoor
namespace Sx
open Go Go.RowKit
variable (E : Env) (P : Program) (G : Gl)

/-- what a call is given: how many temporaries, the number of the first block of its own, the world and the places at its start -/
structure Fr where
  n : Nat
  lo : Nat
  w0 : World
  loc0 : Nat → Nat × Nat
variable (F : Fr)
structure St (loc : Nat → Nat × Nat) (tm : Tr SV) (hp : Tr SBlk) (nx : Nat) (a : Act) (w : World) : Prop where
  size : a.tmps.size = F.n
  defs : a.defers = []
  tr : TRel E loc nx tm a.tmps
  hr : HRel E loc P nx hp w
  le : F.lo ≤ nx
  bel : Below F.w0.heap.size F.w0 w
  own : Own loc F.lo F.w0.heap.size nx
  agree : ∀ b, b < F.lo → loc b = F.loc0 b

theorem gok_below {w0 w : World} (hg : GOk E G w0) (h : Below w0.heap.size w0 w) : GOk E G w := by
  refine ⟨hg.1, fun g i v hv => ?_⟩
  obtain ⟨h1, h2, h3⟩ := hg.2 g i v hv
  refine ⟨fun loc => ?_, h2, h3⟩
  have h4 := h1 loc
  have hlt : g < w0.heap.size := World.block_lt_of_cell? w0 ⟨g, i, none⟩ h4
  rw [h.cell (p := ⟨g, i, none⟩) hlt]
  exact h4
theorem hrel_congr {loc loc' : Nat → Nat × Nat} {nx nx' : Nat} {hp : Tr SBlk} {w : World} (hr : HRel E loc P nx hp w) (hl : ∀ b, b < nx → loc' b = loc b) (hn : nx ≤ nx') : HRel E loc' P nx' hp w := by
  refine ⟨fun b k h => Nat.lt_of_lt_of_le (hr.lt b k h) hn, fun b k h => brel_congr E loc P hl (hr.lt b k h) (hr.wf b k h) rfl (hr.rel b k h), fun b k h => wfL_mono E hn _ (hr.wf b k h), hr.one, fun b k b' k' h h' he => ?_⟩
  rw [hl b (hr.lt b k h), hl b' (hr.lt b' k' h')] at he
  exact hr.inj b k b' k' h h' he
theorem trel_congr {loc loc' : Nat → Nat × Nat} {nx nx' : Nat} {tm : Tr SV} {ts : Array Value} (ht : TRel E loc nx tm ts) (hl : ∀ b, b < nx → loc' b = loc b) (hn : nx ≤ nx') : TRel E loc' nx' tm ts := by
  intro t v h
  obtain ⟨h1, h2⟩ := ht t v h
  exact ⟨by rw [SV.den_congr E loc hl v h2]; exact h1, SV.wf_mono E hn v h2⟩
theorem putO_trel {loc : Nat → Nat × Nat} {nx : Nat} {tm : Tr SV} {a : Act} (ht : TRel E loc nx tm a.tmps) {d : Option Tmp} (hd : ∀ t, d = some t → t < a.tmps.size) {v : SV} (hv : v.wf E nx) : TRel E loc nx (putO d v tm) (a.put d (v.den E loc)).tmps := by
  cases d with
  | none => exact ht
  | some d =>
    intro t u h
    rcases Tr.get_set h with ⟨e, h2⟩ | ⟨e, h2⟩
    · subst e h2
      exact ⟨by simp [Act.put, Array.getElem?_setIfInBounds, hd t rfl], hv⟩
    · obtain ⟨h3, h4⟩ := ht t u h2
      exact ⟨by simp [Act.put, Array.getElem?_setIfInBounds, Ne.symm e]; exact h3, h4⟩
theorem put_size (a : Act) (d : Option Tmp) (v : Value) : (a.put d v).tmps.size = a.tmps.size := by cases d <;> simp [Act.put]
theorem put_defs (a : Act) (d : Option Tmp) (v : Value) : (a.put d v).defers = a.defers := by cases d <;> rfl

variable {E P G F}
theorem St.sil {loc : Nat → Nat × Nat} {tm : Tr SV} {hp : Tr SBlk} {nx : Nat} {a : Act} {w : World} (s : St E P F loc tm hp nx a w) {d : Option Tmp} (hd : ∀ t, d = some t → t < F.n) {v : SV} (hv : v.wf E nx) :
    St E P F loc (putO d v tm) hp nx (a.put d (v.den E loc)) w :=
  ⟨by rw [put_size]; exact s.size, by rw [put_defs]; exact s.defs, putO_trel E s.tr (by rw [s.size]; exact hd) hv, s.hr, s.le, s.bel, s.own, s.agree⟩
theorem St.step {loc loc' : Nat → Nat × Nat} {tm : Tr SV} {hp hp' : Tr SBlk} {nx nx' : Nat} {a : Act} {w w' : World} (s : St E P F loc tm hp nx a w) {d : Option Tmp} (hd : ∀ t, d = some t → t < F.n) {v : SV}
    (h : Step E loc P F.w0.heap.size F.lo nx nx' hp' w v loc' w') : St E P F loc' (putO d v tm) hp' nx' (a.put d (v.den E loc')) w' :=
  ⟨by rw [put_size]; exact s.size, by rw [put_defs]; exact s.defs, putO_trel E (trel_congr E s.tr h.agree h.le) (by rw [s.size]; exact hd) h.wf, h.hr, Nat.le_trans s.le h.le, s.bel.trans h.bel, h.own,
    fun b hb => (h.agree b (Nat.lt_of_lt_of_le hb s.le)).trans (s.agree b hb)⟩
/-- a temporary that holds the same -/
theorem St.same {loc : Nat → Nat × Nat} {tm : Tr SV} {hp : Tr SBlk} {nx : Nat} {a : Act} {w : World} (s : St E P F loc tm hp nx a w) {t : Nat} {v u : SV} (ht : tm.get t = some v) (he : u.den E loc = v.den E loc) (hu : u.wf E nx) :
    St E P F loc (tm.set t u) hp nx a w := by
  refine ⟨s.size, s.defs, fun t' x h => ?_, s.hr, s.le, s.bel, s.own, s.agree⟩
  rcases Tr.get_set h with ⟨e, h2⟩ | ⟨_, h2⟩
  · subst e h2
    exact ⟨by rw [he]; exact (s.tr t' v ht).1, hu⟩
  · exact s.tr t' x h2

/-! outcomes -/
def Ex.conv : Ex → Exit
  | .normal => .normal
  | .exit i => .exit i
  | .ret => .ret
variable (E P G F)
def Post : Out → Exit → Act → World → Prop
  | .done ex tm hp nx => fun e a w => e = ex.conv ∧ ∃ loc, St E P F loc tm hp nx a w
  | .split c t f => fun e a w => (c.den E ≠ 0 → Post t e a w) ∧ (c.den E = 0 → Post f e a w)

/-! merging -/
theorem capEq_ok {a b : Cap} (h : capEq a b = true) : a = b := by
  cases a <;> cases b <;> simp [capEq] at h <;> rw [h]
theorem eqB_ok : ∀ {a b : List UInt8}, eqB a b = true → a = b
  | [], [], _ => rfl
  | a :: x, b :: y, h => by
    simp only [eqB] at h
    cases h1 : Nat.beq a.toNat b.toNat <;> rw [h1] at h <;> try (cases h; done)
    rw [eqB_ok (a := x) (b := y) h, UInt8.toNat_inj.1 (Nat.eq_of_beq_eq_true h1)]
/-- v stands for a where c holds, for b where it does not -/
def Mg (c : SE) (a b v : SV) : Prop := ∀ (loc : Nat → Nat × Nat) (nx : Nat),
    (c.den E ≠ 0 → a.wf E nx → v.den E loc = a.den E loc ∧ v.wf E nx) ∧ (c.den E = 0 → b.wf E nx → v.den E loc = b.den E loc ∧ v.wf E nx)
def MgL (c : SE) (a b v : List SV) : Prop := ∀ (loc : Nat → Nat × Nat) (nx : Nat),
    (c.den E ≠ 0 → wfL E nx a → denL E loc v = denL E loc a ∧ wfL E nx v) ∧ (c.den E = 0 → wfL E nx b → denL E loc v = denL E loc b ∧ wfL E nx v)
theorem mg_same (c : SE) (a : SV) : Mg E c a a a := fun _ _ => ⟨fun _ h => ⟨rfl, h⟩, fun _ h => ⟨rfl, h⟩⟩
theorem mgV_ok {c : SE} {a b v : SV} (h : mgV c a b = some v) : Mg E c a b v := by
  cases a <;> simp only [mgV] at h <;> (try (cases h; done)) <;> cases b <;> (try simp only at h) <;> (try (cases h; done))
  case bool.bool x y =>
    cases h
    refine fun loc nx => ⟨fun hc _ => ⟨?_, trivial⟩, fun hc _ => ⟨?_, trivial⟩⟩ <;> simp [SV.den, mkIte_den, hc]
  case int.int k x l y =>
    by_cases hkl : k = l
    · subst hkl
      rw [decide_eq_true rfl, Bool.cond_true] at h
      cases h
      refine fun loc nx => ⟨fun hc hw => ⟨?_, ?_⟩, fun hc hw => ⟨?_, ?_⟩⟩
      · simp [SV.den, mkIte_den, hc]
      · simp only [SV.wf, mkIte_den, hc, if_false]; exact hw
      · simp [SV.den, mkIte_den, hc]
      · simp only [SV.wf, mkIte_den, hc, if_true]; exact hw
    · rw [decide_eq_false hkl, Bool.cond_false] at h; cases h
  case str.str x y =>
    cases h1 : eqB x y <;> rw [h1] at h <;> cases h
    rw [← eqB_ok h1]; exact mg_same E c _
  case ptr.ptr p o q u =>
    cases h1 : Nat.beq p q <;> rw [h1] at h <;> try (cases h; done)
    cases h2 : Nat.beq o u <;> rw [h2] at h <;> cases h
    rw [Nat.eq_of_beq_eq_true h1, Nat.eq_of_beq_eq_true h2]; exact mg_same E c _
  case gptr.gptr p o q u =>
    cases h1 : Nat.beq p q <;> rw [h1] at h <;> try (cases h; done)
    cases h2 : Nat.beq o u <;> rw [h2] at h <;> cases h
    rw [Nat.eq_of_beq_eq_true h1, Nat.eq_of_beq_eq_true h2]; exact mg_same E c _
  case sl.sl p o n d q u m e =>
    cases h1 : Nat.beq p q <;> rw [h1] at h <;> try (cases h; done)
    cases h2 : Nat.beq o u <;> rw [h2] at h <;> try (cases h; done)
    cases h3 : Nat.beq n m <;> rw [h3] at h <;> try (cases h; done)
    cases h4 : capEq d e <;> rw [h4] at h <;> cases h
    rw [Nat.eq_of_beq_eq_true h1, Nat.eq_of_beq_eq_true h2, Nat.eq_of_beq_eq_true h3, capEq_ok h4]; exact mg_same E c _
  case nils.nils => cases h; exact mg_same E c _
theorem mgL_ok {c : SE} : ∀ {a b v : List SV}, mgL c a b = some v → MgL E c a b v := by
  intro a
  induction a with
  | nil =>
    intro b v h
    cases b <;> simp only [mgL] at h <;> cases h
    exact fun _ _ => ⟨fun _ h => ⟨rfl, h⟩, fun _ h => ⟨rfl, h⟩⟩
  | cons x a ih =>
    intro b v h
    cases b with
    | nil => simp only [mgL] at h; cases h
    | cons y b =>
      simp only [mgL] at h
      cases h1 : mgV c x y with
      | none => rw [h1] at h; cases h
      | some u =>
        cases h2 : mgL c a b with
        | none => rw [h1, h2] at h; cases h
        | some l =>
          rw [h1, h2] at h
          cases h
          intro loc nx
          refine ⟨fun hc hw => ?_, fun hc hw => ?_⟩
          · obtain ⟨a1, a2⟩ := (mgV_ok E h1 loc nx).1 hc hw.1
            obtain ⟨b1, b2⟩ := (ih h2 loc nx).1 hc hw.2
            exact ⟨by simp [denL, a1, b1], a2, b2⟩
          · obtain ⟨a1, a2⟩ := (mgV_ok E h1 loc nx).2 hc hw.1
            obtain ⟨b1, b2⟩ := (ih h2 loc nx).2 hc hw.2
            exact ⟨by simp [denL, a1, b1], a2, b2⟩
theorem mg_agg {c : SE} {x y l : List SV} (h : MgL E c x y l) : Mg E c (.agg x) (.agg y) (.agg l) := fun loc nx =>
  ⟨fun hc hw => (fun ⟨a1, a2⟩ => ⟨by simp [SV.den, a1], a2⟩) ((h loc nx).1 hc hw), fun hc hw => (fun ⟨a1, a2⟩ => ⟨by simp [SV.den, a1], a2⟩) ((h loc nx).2 hc hw)⟩
theorem mg_tup {c : SE} {x y l : List SV} (h : MgL E c x y l) : Mg E c (.tup x) (.tup y) (.tup l) := fun loc nx =>
  ⟨fun hc hw => (fun ⟨a1, a2⟩ => ⟨by simp [SV.den, a1], a2⟩) ((h loc nx).1 hc hw), fun hc hw => (fun ⟨a1, a2⟩ => ⟨by simp [SV.den, a1], a2⟩) ((h loc nx).2 hc hw)⟩
theorem mgW_ok {c : SE} {a b v : SV} (h : mgW c a b = some v) : Mg E c a b v := by
  cases a <;> simp only [mgW] at h
  case agg x =>
    cases b <;> simp only at h <;> try (cases h; done)
    rename_i y
    cases h1 : mgL c x y with
    | none => rw [h1] at h; cases h
    | some l => rw [h1] at h; cases h; exact mg_agg E (mgL_ok E h1)
  case tup x =>
    cases b <;> simp only at h <;> try (cases h; done)
    rename_i y
    cases h1 : mgL c x y with
    | none => rw [h1] at h; cases h
    | some l => rw [h1] at h; cases h; exact mg_tup E (mgL_ok E h1)
  all_goals exact mgV_ok E h
theorem mgWL_ok {c : SE} : ∀ {a b v : List SV}, mgWL c a b = some v → MgL E c a b v := by
  intro a
  induction a with
  | nil =>
    intro b v h
    cases b <;> simp only [mgWL] at h <;> cases h
    exact fun _ _ => ⟨fun _ h => ⟨rfl, h⟩, fun _ h => ⟨rfl, h⟩⟩
  | cons x a ih =>
    intro b v h
    cases b with
    | nil => simp only [mgWL] at h; cases h
    | cons y b =>
      simp only [mgWL] at h
      cases h1 : mgW c x y with
      | none => rw [h1] at h; cases h
      | some u =>
        cases h2 : mgWL c a b with
        | none => rw [h1, h2] at h; cases h
        | some l =>
          rw [h1, h2] at h
          cases h
          intro loc nx
          refine ⟨fun hc hw => ?_, fun hc hw => ?_⟩
          · obtain ⟨a1, a2⟩ := (mgW_ok E h1 loc nx).1 hc hw.1
            obtain ⟨b1, b2⟩ := (ih h2 loc nx).1 hc hw.2
            exact ⟨by simp [denL, a1, b1], a2, b2⟩
          · obtain ⟨a1, a2⟩ := (mgW_ok E h1 loc nx).2 hc hw.1
            obtain ⟨b1, b2⟩ := (ih h2 loc nx).2 hc hw.2
            exact ⟨by simp [denL, a1, b1], a2, b2⟩
theorem mgX_ok {c : SE} {a b v : SV} (h : mgX c a b = some v) : Mg E c a b v := by
  cases a <;> simp only [mgX] at h
  case tup x =>
    cases b <;> simp only at h <;> try (cases h; done)
    rename_i y
    cases h1 : mgWL c x y with
    | none => rw [h1] at h; cases h
    | some l => rw [h1] at h; cases h; exact mg_tup E (mgWL_ok E h1)
  all_goals exact mgW_ok E h
theorem mgT_get {c : SE} : ∀ {a b : Tr SV} {k : Nat} {v : SV}, (mgT c a b).get k = some v → ∃ x y, a.get k = some x ∧ b.get k = some y ∧ mgW c x y = some v := by
  intro a
  induction a with
  | lf => intro b k v h; simp only [mgT] at h; cases h
  | nd l o r ihl ihr =>
    intro b k v h
    cases b with
    | lf => simp only [mgT] at h; cases h
    | nd l' o' r' =>
      simp only [mgT] at h
      cases k with
      | zero =>
        rw [Tr.get_zero] at h ⊢
        rw [Tr.get_zero]
        cases o <;> simp only [mgOV] at h <;> try (cases h; done)
        cases o' <;> simp only at h <;> try (cases h; done)
        exact ⟨_, _, rfl, rfl, h⟩
      | succ j =>
        cases hb : Nat.beq (Nat.mod j 2) 0
        · rw [Tr.get_odd _ _ _ _ hb] at h
          obtain ⟨x, y, h1, h2, h3⟩ := ihr h
          exact ⟨x, y, by rw [Tr.get_odd _ _ _ _ hb]; exact h1, by rw [Tr.get_odd _ _ _ _ hb]; exact h2, h3⟩
        · rw [Tr.get_even _ _ _ _ hb] at h
          obtain ⟨x, y, h1, h2, h3⟩ := ihl h
          exact ⟨x, y, by rw [Tr.get_even _ _ _ _ hb]; exact h1, by rw [Tr.get_even _ _ _ _ hb]; exact h2, h3⟩
theorem mgH_get {c : SE} : ∀ {a b : Tr SBlk} {k : Nat} {v : SBlk}, (mgH c a b).get k = some v → ∃ x y, a.get k = some x ∧ b.get k = some y ∧ mgB c x y = some v := by
  intro a
  induction a with
  | lf => intro b k v h; simp only [mgH] at h; cases h
  | nd l o r ihl ihr =>
    intro b k v h
    cases b with
    | lf => simp only [mgH] at h; cases h
    | nd l' o' r' =>
      simp only [mgH] at h
      cases k with
      | zero =>
        rw [Tr.get_zero] at h ⊢
        rw [Tr.get_zero]
        cases o <;> simp only [mgOB] at h <;> try (cases h; done)
        cases o' <;> simp only at h <;> try (cases h; done)
        exact ⟨_, _, rfl, rfl, h⟩
      | succ j =>
        cases hb : Nat.beq (Nat.mod j 2) 0
        · rw [Tr.get_odd _ _ _ _ hb] at h
          obtain ⟨x, y, h1, h2, h3⟩ := ihr h
          exact ⟨x, y, by rw [Tr.get_odd _ _ _ _ hb]; exact h1, by rw [Tr.get_odd _ _ _ _ hb]; exact h2, h3⟩
        · rw [Tr.get_even _ _ _ _ hb] at h
          obtain ⟨x, y, h1, h2, h3⟩ := ihl h
          exact ⟨x, y, by rw [Tr.get_even _ _ _ _ hb]; exact h1, by rw [Tr.get_even _ _ _ _ hb]; exact h2, h3⟩
theorem mgV_one {c : SE} {a b v : SV} (h : mgV c a b = some v) : oneC v = true := by
  cases a <;> simp only [mgV] at h <;> (try (cases h; done)) <;> cases b <;> (try simp only at h) <;> (try (cases h; done))
  case bool.bool => cases h; rfl
  case int.int k x l y => cases h1 : decide (k = l) <;> rw [h1] at h <;> cases h; rfl
  case str.str x y => cases h1 : eqB x y <;> rw [h1] at h <;> cases h; rfl
  case ptr.ptr p o q u =>
    cases h1 : Nat.beq p q <;> rw [h1] at h <;> try (cases h; done)
    cases h2 : Nat.beq o u <;> rw [h2] at h <;> cases h; rfl
  case gptr.gptr p o q u =>
    cases h1 : Nat.beq p q <;> rw [h1] at h <;> try (cases h; done)
    cases h2 : Nat.beq o u <;> rw [h2] at h <;> cases h; rfl
  case sl.sl p o n d q u m e =>
    cases h1 : Nat.beq p q <;> rw [h1] at h <;> try (cases h; done)
    cases h2 : Nat.beq o u <;> rw [h2] at h <;> try (cases h; done)
    cases h3 : Nat.beq n m <;> rw [h3] at h <;> try (cases h; done)
    cases h4 : capEq d e <;> rw [h4] at h <;> cases h; rfl
  case nils.nils => cases h; rfl
theorem mgL_one {c : SE} : ∀ {a b v : List SV}, mgL c a b = some v → allOne v = true ∧ v.length = a.length ∧ v.length = b.length := by
  intro a
  induction a with
  | nil => intro b v h; cases b <;> simp only [mgL] at h <;> cases h; exact ⟨rfl, rfl, rfl⟩
  | cons x a ih =>
    intro b v h
    cases b with
    | nil => simp only [mgL] at h; cases h
    | cons y b =>
      simp only [mgL] at h
      cases h1 : mgV c x y with
      | none => rw [h1] at h; cases h
      | some u =>
        cases h2 : mgL c a b with
        | none => rw [h1, h2] at h; cases h
        | some l =>
          rw [h1, h2] at h
          cases h
          obtain ⟨a1, a2, a3⟩ := ih h2
          exact ⟨by simp only [allOne, mgV_one h1, a1, Bool.cond_true], by simp [a2], by simp [a3]⟩
theorem mgB_ok {c : SE} {x y k : SBlk} (h : mgB c x y = some k) : k.ty = x.ty ∧ k.ty = y.ty ∧ k.ex = x.ex ∧ k.ex = y.ex ∧ (k.fr = false → x.fr = false ∧ y.fr = false) ∧ mgL c x.cells y.cells = some k.cells := by
  obtain ⟨t, a, e, f⟩ := x
  obtain ⟨u, b, g, i⟩ := y
  simp only [mgB] at h
  cases h1 : Nat.beq t u <;> rw [h1] at h <;> try (cases h; done)
  cases h2 : (e == g) <;> rw [h2] at h <;> try (cases h; done)
  simp only [Bool.cond_true] at h
  split at h
  · rename_i l hl
    cases h
    have e1 := Nat.eq_of_beq_eq_true h1
    have e2 : e = g := by simpa using h2
    exact ⟨rfl, e1, rfl, e2, by simp, hl⟩
  · cases h
theorem maxN_left (a b : Nat) : a ≤ maxN a b := by
  unfold maxN
  cases h : Nat.ble a b
  · exact Nat.le_refl _
  · exact Nat.le_of_ble_eq_true h
theorem maxN_right (a b : Nat) : b ≤ maxN a b := by
  unfold maxN
  cases h : Nat.ble a b
  · have : ¬ a ≤ b := fun e => by rw [Nat.ble_eq_true_of_le e] at h; cases h
    show b ≤ a; omega
  · exact Nat.le_refl _

end Sx
end Go.Proofs.YtfdggebddcoeeaaGreatDoor
end

/-
  Merged states; one operation; operations in a row.
-/
noncomputable section
namespace Go.Proofs.YtfdggebddcoeeaaGreatDoor
namespace Sx
open Go Go.RowKit
variable {E : Env} {P : Program} {G : Gl} {F : Fr}

theorem brel_view {loc : Nat → Nat × Nat} {w : World} {nx b : Nat} {k k0 : SBlk} (h1 : k.ty = k0.ty) (h2 : k.ex = k0.ex) (h3 : k.fr = false → k0.fr = false) (h4 : k.cells.length = k0.cells.length)
    (h5 : denL E loc k.cells = denL E loc k0.cells) (h : BRel E loc P w b k0) : BRel E loc P w b k := by
  obtain ⟨cur, fz, rest, g1, g2, g3, g4, g5⟩ := h
  exact ⟨cur, fz, rest, by rw [h1]; exact g1, fun hf => g2 (h3 hf), by rw [h5]; exact g3, by rw [h2]; exact g4, by rw [h1, h2, h4]; exact g5⟩
theorem St.view {loc : Nat → Nat × Nat} {tm tm2 : Tr SV} {hp hp2 : Tr SBlk} {nx nx' : Nat} {a : Act} {w : World} (s : St E P F loc tm hp nx a w) (hn : nx ≤ nx')
    (ht : ∀ t v, tm2.get t = some v → ∃ u, tm.get t = some u ∧ ∀ loc nx, u.wf E nx → v.den E loc = u.den E loc ∧ v.wf E nx)
    (hh : ∀ b k, hp2.get b = some k → ∃ k0, hp.get b = some k0 ∧ k.ty = k0.ty ∧ k.ex = k0.ex ∧ (k.fr = false → k0.fr = false) ∧ k.cells.length = k0.cells.length ∧ allOne k.cells = true ∧
      ∀ loc nx, wfL E nx k0.cells → denL E loc k.cells = denL E loc k0.cells ∧ wfL E nx k.cells) : ∃ loc', St E P F loc' tm2 hp2 nx' a w := by
  have hl : ∀ b, b < nx → (fun b => if b < nx then loc b else (F.w0.heap.size, 0)) b = loc b := fun b hb => if_pos hb
  have hr' := hrel_congr E P s.hr hl hn
  have ht' := trel_congr E s.tr hl hn
  refine ⟨(fun b => if b < nx then loc b else (F.w0.heap.size, 0)), s.size, s.defs, fun t v hv => ?_, ⟨fun b k h => ?_, fun b k h => ?_, fun b k h => ?_, fun b k h => ?_, fun b k b' k' h h' he => ?_⟩, Nat.le_trans s.le hn, s.bel, fun b h1 h2 => ?_, fun b hb => ?_⟩
  · obtain ⟨u, h1, h2⟩ := ht t v hv
    obtain ⟨h3, h4⟩ := ht' t u h1
    obtain ⟨h5, h6⟩ := h2 (fun b => if b < nx then loc b else (F.w0.heap.size, 0)) nx' h4
    exact ⟨by rw [h5]; exact h3, h6⟩
  · obtain ⟨k0, h1, _⟩ := hh b k h
    exact hr'.lt b k0 h1
  · obtain ⟨k0, h1, h2, h3, h4, h5, h6, h7⟩ := hh b k h
    exact brel_view (nx := nx') h2 h3 h4 h5 (h7 _ nx' (hr'.wf b k0 h1)).1 (hr'.rel b k0 h1)
  · obtain ⟨k0, h1, h2, h3, h4, h5, h6, h7⟩ := hh b k h
    exact (h7 (fun b => if b < nx then loc b else (F.w0.heap.size, 0)) nx' (hr'.wf b k0 h1)).2
  · obtain ⟨k0, h1, h2, h3, h4, h5, h6, h7⟩ := hh b k h
    exact h6
  · obtain ⟨k0, h1, _⟩ := hh b k h
    obtain ⟨k0', h1', _⟩ := hh b' k' h'
    exact hr'.inj b k0 b' k0' h1 h1' he
  · by_cases hb : b < nx
    · simp only [if_pos hb]; exact s.own b h1 hb
    · simp only [if_neg hb]; exact Nat.le_refl _
  · simp only [if_pos (Nat.lt_of_lt_of_le hb s.le)]; exact s.agree b hb
theorem St.left {c : SE} (hc : c.den E ≠ 0) {loc : Nat → Nat × Nat} {tm tm' : Tr SV} {hp hp' : Tr SBlk} {nx nx' : Nat} {a : Act} {w : World} (s : St E P F loc tm hp nx a w) : ∃ loc', St E P F loc' (mgT c tm tm') (mgH c hp hp') (maxN nx nx') a w := by
  refine s.view (maxN_left nx nx') (fun t v h => ?_) (fun b k h => ?_)
  · obtain ⟨x, y, h1, h2, h3⟩ := mgT_get h
    exact ⟨x, h1, fun loc nx hw => (mgW_ok E h3 loc nx).1 hc hw⟩
  · obtain ⟨x, y, h1, h2, h3⟩ := mgH_get h
    obtain ⟨a1, a2, a3, a4, a5, a6⟩ := mgB_ok h3
    obtain ⟨b1, b2, b3⟩ := mgL_one a6
    exact ⟨x, h1, a1, a3, fun hf => (a5 hf).1, b2, b1, fun loc nx hw => (mgL_ok E a6 loc nx).1 hc hw⟩
theorem St.right {c : SE} (hc : c.den E = 0) {loc : Nat → Nat × Nat} {tm tm' : Tr SV} {hp hp' : Tr SBlk} {nx nx' : Nat} {a : Act} {w : World} (s : St E P F loc tm' hp' nx' a w) : ∃ loc', St E P F loc' (mgT c tm tm') (mgH c hp hp') (maxN nx nx') a w := by
  refine s.view (maxN_right nx nx') (fun t v h => ?_) (fun b k h => ?_)
  · obtain ⟨x, y, h1, h2, h3⟩ := mgT_get h
    exact ⟨y, h2, fun loc nx hw => (mgW_ok E h3 loc nx).2 hc hw⟩
  · obtain ⟨x, y, h1, h2, h3⟩ := mgH_get h
    obtain ⟨a1, a2, a3, a4, a5, a6⟩ := mgB_ok h3
    obtain ⟨b1, b2, b3⟩ := mgL_one a6
    exact ⟨y, h2, a2, a4, fun hf => (a5 hf).2, b3, b1, fun loc nx hw => (mgL_ok E a6 loc nx).2 hc hw⟩
theorem mgO_left {c : SE} (hc : c.den E ≠ 0) {x y : Out} {e : Exit} {a : Act} {w : World} (h : Post E P F x e a w) : Post E P F (mgO c x y) e a w := by
  have dflt : Post E P F (.split c x y) e a w := ⟨fun _ => h, fun h0 => absurd h0 hc⟩
  cases x with
  | split => exact dflt
  | done ex tm hp nx =>
    cases ex <;> try exact dflt
    cases y with
    | split => exact dflt
    | done ex' tm' hp' nx' =>
      cases ex' <;> try exact dflt
      obtain ⟨h1, loc, h2⟩ := h
      obtain ⟨loc', h3⟩ := h2.left hc
      exact ⟨h1, loc', h3⟩
theorem mgO_right {c : SE} (hc : c.den E = 0) {x y : Out} {e : Exit} {a : Act} {w : World} (h : Post E P F y e a w) : Post E P F (mgO c x y) e a w := by
  have dflt : Post E P F (.split c x y) e a w := ⟨fun h0 => absurd hc h0, fun _ => h⟩
  cases x with
  | split => exact dflt
  | done ex tm hp nx =>
    cases ex <;> try exact dflt
    cases y with
    | split => exact dflt
    | done ex' tm' hp' nx' =>
      cases ex' <;> try exact dflt
      obtain ⟨h1, loc, h2⟩ := h
      obtain ⟨loc', h3⟩ := h2.right hc
      exact ⟨h1, loc', h3⟩
theorem mgOO_some {c : SE} {x y : Option Out} {o : Out} (h : mgOO c x y = some o) : ∃ a b, x = some a ∧ y = some b ∧ o = mgO c a b := by
  cases x <;> cases y <;> simp only [mgOO] at h <;> cases h
  exact ⟨_, _, rfl, rfl, rfl⟩

/-! calls, asx an operation sees them -/
def CX (P : Program) (f : FuncId) (args : Array Value) (w : World) (R : Value → World → Prop) : Prop := match (callFunc f args).run P w with
  | .ok (.value v) w' => R v w'
  | .ok (.enter g asx) w' => Calls P g asx w' (fun e w'' => match e with | .returned v => R v w'' | _ => False)
  | _ => False
variable (E P G F)
def CFOk (cf : CF) : Prop := ∀ f args hp nx v hp' nx', cf f args hp nx = some (v, hp', nx') → ∀ loc w, HRel E loc P nx hp w → GOk E G w → wfL E nx args →
  CX P f (denL E loc args).toArray w (fun u w' => ∃ loc', u = v.den E loc' ∧ Step E loc P w.heap.size nx nx nx' hp' w v loc' w')
/-- what a part of the evaluator is to do -/
def ROk (k : K) (X : (Exit → Act → World → Prop) → Act → World → Prop) : Prop := ∀ tm hp nx out, k tm hp nx = some out → ∀ loc a w, St E P F loc tm hp nx a w → ∀ Q, (∀ e a w, Post E P F out e a w → Q e a w) → X Q a w
/-- the same, from worlds that meet R -/
def RFrom (k : K) (R : World → Prop) (X : (Exit → Act → World → Prop) → Act → World → Prop) : Prop := ∀ tm hp nx out, k tm hp nx = some out → ∀ loc a w, St E P F loc tm hp nx a w → R w → ∀ Q, (∀ e a w, Post E P F out e a w → Q e a w) → X Q a w
variable {E P G F}
theorem ROk.from {k : K} {X : (Exit → Act → World → Prop) → Act → World → Prop} (h : ROk E P F k X) (R : World → Prop) : RFrom E P F k R X := fun _ _ _ _ hk _ _ _ s _ Q hQ => h _ _ _ _ hk _ _ _ s Q hQ
theorem St.gok {loc : Nat → Nat × Nat} {tm : Tr SV} {hp : Tr SBlk} {nx : Nat} {a : Act} {w : World} (s : St E P F loc tm hp nx a w) (hg : GOk E G F.w0) : GOk E G w := gok_below E G hg s.bel
theorem step_lift {loc loc' : Nat → Nat × Nat} {tm : Tr SV} {hp hp' : Tr SBlk} {nx nx' : Nat} {a : Act} {w w' : World} (s : St E P F loc tm hp nx a w) {v : SV} (h : Step E loc P w.heap.size nx nx nx' hp' w v loc' w') : Step E loc P F.w0.heap.size F.lo nx nx' hp' w v loc' w' :=
  ⟨h.le, h.agree, h.hr, h.bel.mono s.bel.size, fun b h1 h2 => (by
    by_cases hb : b < nx
    · rw [h.agree b hb]; exact s.own b h1 hb
    · exact Nat.le_trans s.bel.size (h.own b (by omega) h2)), h.wf⟩

theorem cal_inv {o : Op} {f : Tr SV → Option (FuncId × List SV)} (hc : cls P G o = .cal f) {tm : Tr SV} {fid : FuncId} {args : List SV} (hv : f tm = some (fid, args)) :
    ∃ x asx ts, o = .call ⟨.value x, asx, ts⟩ ∧ ∃ caps vs, opv tm x = some (.func fid caps) ∧ opsv tm asx.toList = some vs ∧ args = vs ++ caps := by
  cases o <;> simp only [cls] at hc <;> (try (cases hc; done))
  case makeFunc fn first caps =>
    cases fn <;> simp only at hc <;> try (cases hc; done)
    split at hc <;> cases hc
  case convert src dst x =>
    split at hc
    · rename_i e he
      cases k1 : strT P src <;> rw [k1] at hc <;> (try (cases hc; done)) <;> cases k2 : Nat.beq (descKind P e) 5 <;> rw [k2] at hc <;> (try (cases hc; done)) <;> cases k3 : Nat.beq (szOf P e) 1 <;> rw [k3] at hc <;> (cases hc; done)
    · cases hc
  case makeSlice t l c =>
    split at hc
    · rename_i e he
      cases k1 : szPos P e <;> rw [k1] at hc <;> cases hc
    · cases hc
  case buildSlice t n ps =>
    split at hc
    · rename_i e he
      cases h5 : (and (szPos P e) (Nat.ble (Nat.mul n (szOf P e)) many)) <;> rw [h5] at hc <;> cases hc
    · cases hc
  case slice t x lo hi m =>
    cases m with
    | some m => cases hc
    | none =>
      simp only at hc
      cases he : elemOf' P t <;> rw [he] at hc
      · cases hs : strT P t <;> rw [hs] at hc <;> cases hc
      · cases hc
  case fieldAddr t x i =>
    split at hc
    · rename_i fl hf
      cases hz : Nat.beq (szOf P fl.type) 0 <;> rw [hz] at hc <;> cases hc
    · cases hc
  case field t x i =>
    split at hc <;> cases hc
  case call c =>
    obtain ⟨callee, asx, ts⟩ := c
    cases callee <;> simp only at hc <;> try (cases hc; done)
    · rename_i x
      cases hc
      dsimp only at hv
      split at hv
      · rename_i v hx
        split at hv
        · rename_i g caps
          split at hv
          · rename_i vs hvs
            cases hv
            exact ⟨x, asx, ts, rfl, caps, vs, hx, hvs, rfl⟩
          · cases hv
        · cases hv
      · cases hv
    · rename_i b
      cases b <;> simp only [builtinC] at hc <;> cases hc
/-- one operation that is carried out -/
theorem runC_ok {cf : CF} (hcf : CFOk E P G cf) (hg : GOk E G F.w0) {o : Oper} (hd : ∀ t, o.dst = some t → t < F.n) {ih : K} {X : (Exit → Act → World → Prop) → Act → World → Prop} {w : World} (hX : RFrom E P F ih (fun w' => isWrt (cls P G o.op) = false → Below w.heap.size w w') X)
    {tm : Tr SV} {hp : Tr SBlk} {nx : Nat} {out : Out} (h : runC cf F.lo (cls P G o.op) o.dst ih tm hp nx = some out) {loc : Nat → Nat × Nat} {a : Act} (s : St E P F loc tm hp nx a w)
    {Q : Exit → Act → World → Prop} (hQ : ∀ e a w, Post E P F out e a w → Q e a w) : o.wp P a w (X Q) Q := by
  cases hc : cls P G o.op with
  | bad => rw [hc] at h; cases h
  | sil f =>
    rw [hc] at h
    simp only [runC] at h
    cases hv : f tm hp with
    | none => rw [hv] at h; cases h
    | some v =>
      rw [hv] at h
      simp only [silK] at h
      have hrun : (execOp a.eval o).run P w = .ok (.value (v.den E loc)) w ∧ v.wf E nx := by
        cases hl : isLoad o.op
        · exact silN_ok E loc P G hg.1 hc hl s.tr hv s.hr w
        · exact silL_ok E loc P G hc hl s.tr hv s.hr (s.gok hg)
      unfold Oper.wp
      rw [hrun.1]
      exact hX _ _ _ _ h loc _ _ (s.sil hd hrun.2) (fun _ => Below.refl _ _) Q hQ
  | alc f =>
    rw [hc] at h
    simp only [runC] at h
    cases hv : f tm with
    | none => rw [hv] at h; cases h
    | some r =>
      obtain ⟨k, val⟩ := r
      rw [hv] at h
      simp only [alcK] at h
      obtain ⟨w', g, c, h1, h2, h3, h4, h5, h6, h7⟩ := alc_ok E loc P G hc s.tr hv w
      have hst : Step E loc P w.heap.size nx nx (nx + 1) (hp.set nx k) w (val nx) (upd loc nx (g, c)) w' :=
        ⟨Nat.le_succ nx, fun b hb => upd_lt loc _ hb, hrel_new E loc P s.hr h2 h3 h4 h5 h6, h2, fun b hb1 hb2 => (by
          have : b = nx := by omega
          subst this; rw [upd_self]; exact h3), h7⟩
      unfold Oper.wp
      rw [h1]
      exact hX _ _ _ _ h _ _ _ (s.step hd (step_lift s hst)) (fun _ => h2) Q hQ
  | wrt f =>
    rw [hc] at h
    simp only [runC] at h
    cases hv : f F.lo tm hp nx with
    | none => rw [hv] at h; cases h
    | some r =>
      obtain ⟨v, hp', nx'⟩ := r
      rw [hv] at h
      simp only [effK] at h
      obtain ⟨w', loc', h1, h2⟩ := wrt_ok E loc P G s.tr s.hr s.own s.bel.size hc hv
      unfold Oper.wp
      rcases h2 with h2 | ⟨h2, h3⟩
      · rw [h2]
        exact hX _ _ _ _ h _ _ _ (s.step hd h1) (fun hne => by rw [hc] at hne; cases hne) Q hQ
      · rw [h2]
        show X Q (a.put o.dst undef) w'
        rw [← h3]
        exact hX _ _ _ _ h _ _ _ (s.step hd h1) (fun hne => by rw [hc] at hne; cases hne) Q hQ
  | cal f =>
    rw [hc] at h
    simp only [runC] at h
    cases hv : f tm with
    | none => rw [hv] at h; cases h
    | some r =>
      obtain ⟨fid, args⟩ := r
      rw [hv] at h
      simp only [calK] at h
      cases hcall : cf fid args hp nx with
      | none => rw [hcall] at h; cases h
      | some r =>
        obtain ⟨v, hp', nx'⟩ := r
        rw [hcall] at h
        simp only [effK] at h
        -- the call
        have hop : ∃ x asx ts, o.op = .call ⟨.value x, asx, ts⟩ ∧ ∃ caps vs, opv tm x = some (.func fid caps) ∧ opsv tm asx.toList = some vs ∧ args = vs ++ caps := by
          exact cal_inv hc hv
        obtain ⟨x, asx, ts, hop, caps, vs, hx, has, rfl⟩ := hop
        obtain ⟨a1, a2⟩ := opv_ok E loc s.tr hx
        obtain ⟨b1, b2⟩ := opsv_ok E loc s.tr has
        have b1' : asx.map a.eval = (denL E loc vs).toArray := Array.ext' (by rw [Array.toList_map, b1])
        have hcx := hcf _ _ _ _ _ _ _ hcall loc w s.hr (s.gok hg) (wfL_append E b2 a2)
        have hexec : (execOp a.eval o).run P w = (callFunc fid (denL E loc (vs ++ caps)).toArray).run P w := by
          unfold execOp
          rw [hop]
          have e1 : (denL E loc vs).toArray ++ (denL E loc caps).toArray = (denL E loc (vs ++ caps)).toArray := by
            apply Array.ext'; simp [denL_append]
          simp only [resolve, a1, SV.den, Deferred.ofValue, b1', Sem.run_bind, Sem.run_pure, Result.andThen_ok, invoke, Array.empty_append, e1]
        unfold Oper.wp
        rw [hexec]
        unfold CX at hcx
        generalize (callFunc fid (denL E loc (vs ++ caps)).toArray).run P w = r at hcx
        cases r with
        | halt x w' => exact hcx.elim
        | ok n w' =>
          cases n <;> (try exact hcx.elim)
          case value u =>
            obtain ⟨loc', e1, e2⟩ := hcx
            subst e1
            exact hX _ _ _ _ h _ _ _ (s.step hd (step_lift s e2)) (fun _ => e2.bel) Q hQ
          case enter g asx' =>
            refine Calls.mono hcx fun e w'' he => ?_
            cases e with
            | returned u =>
              obtain ⟨loc', e1, e2⟩ := he
              subst e1
              exact hX _ _ _ _ h _ _ _ (s.step hd (step_lift s e2)) (fun _ => e2.bel) Q hQ
            | panicked c => exact he.elim
            | outgrown => exact he.elim

theorem yielded_ok {ops : Array Oper} {j g : Nat} (hj : guardDst ops j = some g) {ts : Array Value} {b : Bool} (h : ts[g]? = some (.bool b)) : yielded ops ts j = some b := by
  unfold guardDst at hj
  unfold yielded
  cases ho : ops[j]? with
  | none => rw [ho] at hj; cases hj
  | some o =>
    rw [ho] at hj
    simp only at hj
    simp [hj, h]
theorem yielded_none {ops : Array Oper} {j g : Nat} (hj : guardDst ops j = some g) {ts : Array Value} (h : ts[g]? = some (.tuple #[])) : yielded ops ts j = none := by
  unfold guardDst at hj
  unfold yielded
  cases ho : ops[j]? with
  | none => rw [ho] at hj; cases hj
  | some o =>
    rw [ho] at hj
    simp only at hj
    simp [hj, h]
/-- one operation -/
theorem runO_ok {cf : CF} (hcf : CFOk E P G cf) (hg : GOk E G F.w0) {ops : Array Oper} {o : Oper} (hd : ∀ t, o.dst = some t → t < F.n) {ih : K} {X : (Exit → Act → World → Prop) → Act → World → Prop} {w : World} (hX : RFrom E P F ih (fun w' => isWrt (cls P G o.op) = false → Below w.heap.size w w') X)
    {tm : Tr SV} {hp : Tr SBlk} {nx : Nat} {out : Out} (h : runO P G cf F.lo ops o ih tm hp nx = some out) {loc : Nat → Nat × Nat} {a : Act} (s : St E P F loc tm hp nx a w)
    {Q : Exit → Act → World → Prop} (hQ : ∀ e a w, Post E P F out e a w → Q e a w) :
    if Region.wanted o (yielded ops a.tmps) then o.wp P a w (X Q) Q else X Q (a.put o.dst undef) w := by
  have hskip : ∀ {loc tm hp nx a out}, ih (putO o.dst (.tup []) tm) hp nx = some out → St E P F loc tm hp nx a w → ∀ {Q : Exit → Act → World → Prop}, (∀ e a w, Post E P F out e a w → Q e a w) → X Q (a.put o.dst undef) w := by
    intro loc tm hp nx a out h s Q hQ
    have : (SV.tup []).den E loc = undef := rfl
    rw [← this]
    exact hX _ _ _ _ h _ _ _ (s.sil hd (v := .tup []) trivial) (fun _ => Below.refl _ _) Q hQ
  unfold runO at h
  cases hgu : o.guard with
  | none =>
    rw [hgu] at h
    have hw : Region.wanted o (yielded ops a.tmps) = true := by simp [Region.wanted, hgu]
    rw [if_pos hw]
    exact runC_ok hcf hg hd hX h s hQ
  | some gw =>
    obtain ⟨j, want⟩ := gw
    rw [hgu] at h
    simp only [runG] at h
    cases hdst : guardDst ops j with
    | none => rw [hdst] at h; cases h
    | some g =>
      rw [hdst] at h
      simp only at h
      cases hv : tm.get g with
      | none => rw [hv] at h; cases h
      | some v =>
        rw [hv] at h
        have htup : ∀ l, v = .tup l → if Region.wanted o (yielded ops a.tmps) = true then o.wp P a w (X Q) Q else X Q (a.put o.dst undef) w := fun l hl => by
          subst hl
          simp only at h
          cases l with
          | cons _ _ => cases h
          | nil =>
            have hy := yielded_none hdst (s.tr g _ hv).1
            have hw : Region.wanted o (yielded ops a.tmps) = false := by simp [Region.wanted, hgu, hy]
            rw [hw, if_neg (by simp)]
            exact hskip h s hQ
        cases v <;> (try exact htup _ rfl) <;> simp only at h <;> try (cases h; done)
        rename_i e
        obtain ⟨t1, t2⟩ := s.tr g _ hv
        have hy := yielded_ok hdst t1
        have hw : Region.wanted o (yielded ops a.tmps) = (decide (e.den E ≠ 0) == want) := by
          simp only [Region.wanted, hgu, hy]
          cases decide (e.den E ≠ 0) <;> cases want <;> rfl
        rw [hw]
        have gen : (cond want
            (mgOO e (runC cf F.lo (cls P G o.op) o.dst ih (tm.set g (.bool (.lit 1))) hp nx) (ih (putO o.dst (.tup []) (tm.set g (.bool (.lit 0)))) hp nx))
            (mgOO e (ih (putO o.dst (.tup []) (tm.set g (.bool (.lit 1)))) hp nx) (runC cf F.lo (cls P G o.op) o.dst ih (tm.set g (.bool (.lit 0))) hp nx))) = some out →
            if (decide (e.den E ≠ 0) == want) = true then o.wp P a w (X Q) Q else X Q (a.put o.dst undef) w := by
          intro h
          have s1 : e.den E ≠ 0 → St E P F loc (tm.set g (.bool (.lit 1))) hp nx a w := fun hc => s.same hv (by simp [SV.den, SE.den, hc]) trivial
          have s0 : e.den E = 0 → St E P F loc (tm.set g (.bool (.lit 0))) hp nx a w := fun hc => s.same hv (by simp [SV.den, SE.den, hc]) trivial
          cases want
          · simp only [Bool.cond_false] at h
            obtain ⟨o1, o2, h1, h2, rfl⟩ := mgOO_some h
            by_cases hc : e.den E = 0
            · have : (decide (e.den E ≠ 0) == false) = true := by simp [hc]
              rw [if_pos this]
              exact runC_ok hcf hg hd hX h2 (s0 hc) fun e a w hp => hQ e a w (mgO_right hc hp)
            · have : ¬ (decide (e.den E ≠ 0) == false) = true := by simp [hc]
              rw [if_neg this]
              exact hskip h1 (s1 hc) fun e a w hp => hQ e a w (mgO_left hc hp)
          · simp only [Bool.cond_true] at h
            obtain ⟨o1, o2, h1, h2, rfl⟩ := mgOO_some h
            by_cases hc : e.den E = 0
            · have : ¬ (decide (e.den E ≠ 0) == true) = true := by simp [hc]
              rw [if_neg this]
              exact hskip h2 (s0 hc) fun e a w hp => hQ e a w (mgO_right hc hp)
            · have : (decide (e.den E ≠ 0) == true) = true := by simp [hc]
              rw [if_pos this]
              exact runC_ok hcf hg hd hX h1 (s1 hc) fun e a w hp => hQ e a w (mgO_left hc hp)
        cases e <;> try exact gen h
        rename_i n
        simp only at h
        cases h0 : int0 n
        · have hn : n ≠ 0 := fun e => by rw [(int0_iff n).2 e] at h0; cases h0
          rw [h0] at h
          cases want
          · have : ¬ (decide ((SE.lit n).den E ≠ 0) == false) = true := by simp [SE.den, hn]
            rw [if_neg this]
            exact hskip h s hQ
          · have : (decide ((SE.lit n).den E ≠ 0) == true) = true := by simp [SE.den, hn]
            rw [if_pos this]
            exact runC_ok hcf hg hd hX h s hQ
        · have hn : n = 0 := (int0_iff n).1 h0
          rw [h0] at h
          cases want
          · have : (decide ((SE.lit n).den E ≠ 0) == false) = true := by simp [SE.den, hn]
            rw [if_pos this]
            exact runC_ok hcf hg hd hX h s hQ
          · have : ¬ (decide ((SE.lit n).den E ≠ 0) == true) = true := by simp [SE.den, hn]
            rw [if_neg this]
            exact hskip h s hQ
theorem runL_ok {cf : CF} (hcf : CFOk E P G cf) (hg : GOk E G F.w0) {ops : Array Oper} : ∀ {l : List Oper}, (∀ o ∈ l, ∀ t, o.dst = some t → t < F.n) → ROk E P F (runL P G cf F.lo ops l) (fun Q a w => wpList P ops Q l a w) := by
  intro l
  induction l with
  | nil =>
    intro _ tm hp nx out h loc a w s Q hQ
    cases h
    exact hQ _ _ _ ⟨rfl, loc, s⟩
  | cons o l ih =>
    intro hd tm hp nx out h loc a w s Q hQ
    have := runO_ok hcf hg (hd o List.mem_cons_self) ((ih fun o ho => hd o (List.mem_cons_of_mem _ ho)).from _) h s hQ
    unfold wpList
    split
    · rename_i hw
      rw [if_pos hw] at this
      exact .inl this
    · rename_i hw
      rw [if_neg hw] at this
      exact this

end Sx
end Go.Proofs.YtfdggebddcoeeaaGreatDoor
end

/-
  Code, but for regions that draw their order.
-/
noncomputable section
namespace Go.Proofs.YtfdggebddcoeeaaGreatDoor
namespace Sx
open Go Go.RowKit
variable {E : Env} {P : Program} {G : Gl} {F : Fr}

def dstIn (n : Nat) : List Oper → Bool
  | [] => true
  | o :: l => cond (match o.dst with
    | some t => Nat.blt t n
    | none => true) (dstIn n l) false
def boundC (n : Nat) : Code → Bool
  | .region _ ops _ => dstIn n ops.toList
  | .seq a b => cond (boundC n a) (boundC n b) false
  | .cond _ a b => cond (boundC n a) (boundC n b) false
  | .block _ a => boundC n a
  | .loop a => boundC n a
  | _ => true
theorem dstIn_ok {n : Nat} : ∀ {l : List Oper}, dstIn n l = true → ∀ o ∈ l, ∀ t, o.dst = some t → t < n := by
  intro l
  induction l with
  | nil => intro _ o h; cases h
  | cons o l ih =>
    intro h o' ho' t ht
    simp only [dstIn] at h
    cases h1 : (match o.dst with | some t => Nat.blt t n | none => true) <;> rw [h1] at h <;> try (cases h; done)
    rcases List.mem_cons.1 ho' with rfl | ho'
    · rw [ht] at h1; exact blt_lt h1
    · exact ih h o' ho' t ht

theorem bind_ok {k : K} {X : (Exit → Act → World → Prop) → Act → World → Prop} (hk : ROk E P F k X) : ∀ {o1 out : Out}, o1.bindN k = some out → ∀ {Q : Exit → Act → World → Prop}, (∀ e a w, Post E P F out e a w → Q e a w) →
    ∀ e a w, Post E P F o1 e a w → Exit.then (X Q) Q e a w := by
  intro o1
  induction o1 with
  | done ex tm hp nx =>
    intro out h Q hQ e a w hp'
    obtain ⟨rfl, loc, s⟩ := hp'
    cases ex with
    | normal => exact hk _ _ _ _ h loc a w s Q hQ
    | exit i => cases h; exact hQ _ _ _ ⟨rfl, loc, s⟩
    | ret => cases h; exact hQ _ _ _ ⟨rfl, loc, s⟩
  | split c t f iht ihf =>
    intro out h Q hQ e a w hp'
    simp only [Out.bindN] at h
    cases h1 : t.bindN k with
    | none => rw [h1] at h; cases h
    | some t' =>
      cases h2 : f.bindN k with
      | none => rw [h1, h2] at h; cases h
      | some f' =>
        rw [h1, h2] at h
        cases h
        by_cases hc : c.den E = 0
        · exact ihf h2 (fun e a w hp => hQ e a w ⟨fun h0 => absurd hc h0, fun _ => hp⟩) e a w (hp'.2 hc)
        · exact iht h1 (fun e a w hp => hQ e a w ⟨fun _ => hp, fun h0 => absurd h0 hc⟩) e a w (hp'.1 hc)
theorem mapE_ok {id : Nat} : ∀ {o1 : Out}, ∀ {Q : Exit → Act → World → Prop}, (∀ e a w, Post E P F (o1.mapE id) e a w → Q e a w) →
    ∀ e a w, Post E P F o1 e a w → Exit.inBlock id Q e a w := by
  intro o1
  induction o1 with
  | done ex tm hp nx =>
    intro Q hQ e a w hp'
    obtain ⟨rfl, loc, s⟩ := hp'
    cases ex with
    | normal => exact hQ _ _ _ ⟨rfl, loc, s⟩
    | exit i =>
      show if i = id then Q .normal a w else Q (.exit i) a w
      by_cases hi : i = id
      · rw [if_pos hi]
        refine hQ _ _ _ ⟨?_, loc, s⟩
        subst hi
        simp [unExit, Ex.conv]
      · rw [if_neg hi]
        refine hQ _ _ _ ⟨?_, loc, s⟩
        have : Nat.beq i id = false := by
          cases h : Nat.beq i id
          · rfl
          · exact absurd (Nat.eq_of_beq_eq_true h) hi
        simp [unExit, this, Ex.conv]
    | ret => exact hQ _ _ _ ⟨rfl, loc, s⟩
  | split c t f iht ihf =>
    intro Q hQ e a w hp'
    by_cases hc : c.den E = 0
    · exact ihf (fun e a w hp => hQ e a w ⟨fun h0 => absurd hc h0, fun _ => hp⟩) e a w (hp'.2 hc)
    · exact iht (fun e a w hp => hQ e a w ⟨fun _ => hp, fun h0 => absurd h0 hc⟩) e a w (hp'.1 hc)
theorem bindO_some {o : Option Out} {k : K} {out : Out} (h : bindO o k = some out) : ∃ o1, o = some o1 ∧ o1.bindN k = some out := by
  cases o with
  | none => cases h
  | some o1 => exact ⟨o1, rfl, h⟩

theorem findS_ok : ∀ {l : List (SE × SE × Nat)} {e k : SE} {n : Nat}, findS l e = some (k, n) → (e, k, n) ∈ l := by
  intro l
  induction l with
  | nil => intro e k n h; cases h
  | cons s l ih =>
    obtain ⟨x, k', n'⟩ := s
    intro e k n h
    simp only [findS] at h
    cases h1 : SE.beq x e <;> rw [h1] at h
    · exact List.mem_cons_of_mem _ (ih h)
    · cases h
      rw [SE.beq_eq h1]
      exact List.mem_cons_self
theorem subT_get {k : SE} {c : Nat} : ∀ {tm : Tr SV} {t : Nat} {v : SV}, (subT k c tm).get t = some v → ∃ u, tm.get t = some u ∧ v = subV k c u := by
  intro tm
  induction tm with
  | lf => intro t v h; cases h
  | nd l x r ihl ihr =>
    intro t v h
    cases t with
    | zero =>
      have h' : subO k c x = some v := h
      cases x with
      | none => cases h'
      | some u => cases h'; exact ⟨u, rfl, rfl⟩
    | succ j =>
      simp only [subT] at h
      cases hb : Nat.beq (Nat.mod j 2) 0
      · rw [Tr.get_odd _ _ _ _ hb] at h ⊢; exact ihr h
      · rw [Tr.get_even _ _ _ _ hb] at h ⊢; exact ihl h
theorem subV_ok {k : SE} {c : Nat} (hk : k.den E = c) (loc : Nat → Nat × Nat) (nx : Nat) (u : SV) : (subV k c u).den E loc = u.den E loc ∧ (u.wf E nx → (subV k c u).wf E nx) := by
  cases u <;> try exact ⟨rfl, id⟩
  rename_i i e
  simp only [subV]
  cases h : SE.beq k e
  · exact ⟨rfl, id⟩
  · have h1 := SE.beq_eq h
    subst h1
    have h2 : (SE.lit (Int.ofNat c)).den E = k.den E := by rw [hk]; rfl
    exact ⟨by simp only [cond, SV.den, h2], fun hw => by simp only [cond, SV.wf, h2]; exact hw⟩
theorem St.sub {k : SE} {c : Nat} (hk : k.den E = c) {loc : Nat → Nat × Nat} {tm : Tr SV} {hp : Tr SBlk} {nx : Nat} {a : Act} {w : World} (s : St E P F loc tm hp nx a w) : St E P F loc (subT k c tm) hp nx a w :=
  ⟨s.size, s.defs, fun t v h => (by
    obtain ⟨u, h1, h2⟩ := subT_get h
    obtain ⟨h3, h4⟩ := s.tr t u h1
    obtain ⟨h5, h6⟩ := subV_ok hk loc nx u
    subst h2
    exact ⟨by rw [h5]; exact h3, h6 h4⟩), s.hr, s.le, s.bel, s.own, s.agree⟩
theorem spread_ok {k : SE} {run : Tr SV → Option Out} {tm : Tr SV} {X : (Exit → Act → World → Prop) → Prop}
    (hrun : ∀ (c : Nat) (o : Out), k.den E = c → run (subT k c tm) = some o → ∀ Q : Exit → Act → World → Prop, (∀ e a w, Post E P F o e a w → Q e a w) → X Q) :
    ∀ (n : Nat) (out : Out), spread k run tm n = some out → ∀ c : Nat, c < n → k.den E = c → ∀ Q : Exit → Act → World → Prop, (∀ e a w, Post E P F out e a w → Q e a w) → X Q := by
  intro n
  induction n with
  | zero => intro out h; cases h
  | succ m ih =>
    intro out h c hc hk Q hQ
    cases m with
    | zero =>
      have h0 : c = 0 := by omega
      subst h0
      exact hrun 0 out hk h Q hQ
    | succ j =>
      simp only [spread] at h
      obtain ⟨o1, o2, h1, h2, rfl⟩ := mgOO_some h
      by_cases hcj : c = j + 1
      · subst hcj
        refine hrun (j + 1) o1 hk h1 Q fun e a w hp => hQ e a w (mgO_left ?_ hp)
        rw [mkEq_den, hk]
        simp [SE.den]
      · refine ih o2 h2 c (by omega) hk Q fun e a w hp => hQ e a w (mgO_right ?_ hp)
        rw [mkEq_den, hk, if_neg]
        simp only [SE.den, Int.ofNat_eq_natCast]
        omega

theorem exec_ok {cf : CF} (hcf : CFOk E P G cf) (hg : GOk E G F.w0)
    (hdraw : ∀ id ops, dstIn F.n ops.toList = true → ROk E P F (runR P G cf F.lo ops true) (fun Q a w => (Code.region id ops true).wp P Q a w)) :
    ∀ {c : Code}, boundC F.n c = true → ROk E P F (exec P G cf F.lo c) (fun Q a w => c.wp P Q a w) := by
  intro c
  induction c with
  | skip =>
    intro _ tm hp nx out h loc a w s Q hQ
    cases h
    exact wp_skip (hQ _ _ _ ⟨rfl, loc, s⟩)
  | region id ops draw =>
    intro hb
    cases draw with
    | true => exact hdraw id ops hb
    | false =>
      intro tm hp nx out h loc a w s Q hQ
      exact wp_region_list (runL_ok hcf hg (dstIn_ok hb) _ _ _ _ h loc a w s Q hQ)
  | seq x y ihx ihy =>
    intro hb tm hp nx out h loc a w s Q hQ
    simp only [boundC] at hb
    cases hbx : boundC F.n x <;> rw [hbx] at hb <;> try (cases hb; done)
    simp only [exec] at h
    obtain ⟨o1, h1, h2⟩ := bindO_some h
    exact wp_seq (ihx hbx _ _ _ _ h1 loc a w s _ (bind_ok (ihy hb) h2 hQ))
  | cond x y z ihy ihz =>
    intro hb tm hp nx out h loc a w s Q hQ
    simp only [boundC] at hb
    cases hby : boundC F.n y <;> rw [hby] at hb <;> try (cases hb; done)
    simp only [exec, condO] at h
    cases hv : opv tm x with
    | none => rw [hv] at h; cases h
    | some v =>
      rw [hv] at h
      cases v <;> simp only at h <;> try (cases h; done)
      rename_i e
      obtain ⟨a1, a2⟩ := opv_ok E loc s.tr hv
      have gen : (match findS G.spl e with
          | some (k, n) => mgOO e (spread k (fun tm => exec P G cf F.lo y tm hp nx) tm n) (exec P G cf F.lo z tm hp nx)
          | none => mgOO e (exec P G cf F.lo y tm hp nx) (exec P G cf F.lo z tm hp nx)) = some out → (Code.cond x y z).wp P Q a w := by
        intro h
        split at h
        · rename_i k n hf
          obtain ⟨o1, o2, h1, h2, rfl⟩ := mgOO_some h
          refine wp_cond_split a1 (fun ht => ?_) (fun hf => ?_)
          · have hc : e.den E ≠ 0 := of_decide_eq_true ht
            obtain ⟨c, hcn, hkc⟩ := hg.1.2 _ (findS_ok hf) hc
            exact spread_ok (X := fun Q => y.wp P Q a w) (fun c o hk hr Q hQ => ihy hby _ _ _ _ hr loc a w (s.sub hk) Q hQ) n o1 h1 c hcn hkc _ fun e a w hp => hQ e a w (mgO_left hc hp)
          · have hc : e.den E = 0 := by simpa using hf
            exact ihz hb _ _ _ _ h2 loc a w s Q fun e a w hp => hQ e a w (mgO_right hc hp)
        · obtain ⟨o1, o2, h1, h2, rfl⟩ := mgOO_some h
          refine wp_cond_split a1 (fun ht => ?_) (fun hf => ?_)
          · have hc : e.den E ≠ 0 := of_decide_eq_true ht
            exact ihy hby _ _ _ _ h1 loc a w s Q fun e a w hp => hQ e a w (mgO_left hc hp)
          · have hc : e.den E = 0 := by simpa using hf
            exact ihz hb _ _ _ _ h2 loc a w s Q fun e a w hp => hQ e a w (mgO_right hc hp)
      cases e <;> try exact gen h
      rename_i n
      simp only at h
      cases h0 : int0 n <;> rw [h0] at h
      · have hn : n ≠ 0 := fun e => by rw [(int0_iff n).2 e] at h0; cases h0
        refine wp_cond_split a1 (fun _ => ihy hby _ _ _ _ h loc a w s Q hQ) (fun hf => ?_)
        exact absurd hn (of_decide_eq_false hf)
      · have hn : n = 0 := (int0_iff n).1 h0
        refine wp_cond_split a1 (fun ht => ?_) (fun _ => ihz hb _ _ _ _ h loc a w s Q hQ)
        exact absurd hn (of_decide_eq_true ht)
  | block id x ih =>
    intro hb tm hp nx out h loc a w s Q hQ
    simp only [exec] at h
    cases h1 : exec P G cf F.lo x tm hp nx with
    | none => rw [h1] at h; cases h
    | some o1 =>
      rw [h1] at h
      cases h
      exact wp_block (ih hb _ _ _ _ h1 loc a w s _ (mapE_ok hQ))
  | loop x ih =>
    intro hb tm hp nx out h loc a w s Q hQ
    simp only [exec] at h
    have key : ∀ n, ROk E P F (loopN (exec P G cf F.lo x) n) (fun Q a w => Code.rounds P x Q n a w) := by
      intro n
      induction n with
      | zero => intro tm hp nx out h; cases h
      | succ n ihn =>
        intro tm hp nx out h loc a w s Q hQ
        simp only [loopN] at h
        obtain ⟨o1, h1, h2⟩ := bindO_some h
        exact ih hb _ _ _ _ h1 loc a w s _ (bind_ok ihn h2 hQ)
    exact wp_loop_rounds rounds (key rounds _ _ _ _ h loc a w s Q hQ)
  | exit id =>
    intro _ tm hp nx out h loc a w s Q hQ
    cases h
    exact wp_exit (hQ _ _ _ ⟨rfl, loc, s⟩)
  | ret =>
    intro _ tm hp nx out h loc a w s Q hQ
    cases h
    exact wp_ret (hQ _ _ _ ⟨rfl, loc, s⟩)
  | _ => intro _ tm hp nx out h; cases h

end Sx
end Go.Proofs.YtfdggebddcoeeaaGreatDoor
end

/-
  Calls.
-/
noncomputable section
namespace Go.Proofs.YtfdggebddcoeeaaGreatDoor
namespace Sx
open Go Go.RowKit
variable {E : Env} {P : Program} {G : Gl} {F : Fr}

/-! results -/
theorem loadVar_ok {loc : Nat → Nat × Nat} {nx : Nat} {hp : Tr SBlk} {w : World} (hr : HRel E loc P nx hp w) (hg : GOk E G w) {t : TypeId} {x v : SV} (h : loadS P G hp t x = some v) :
    ∃ ad, x.den E loc = .pointer (some ad) ∧ (loadVar t ad).run P w = .ok (v.den E loc) w ∧ v.wf E nx := by
  obtain ⟨h1, h2⟩ := loadS_ok E loc P G hr hg h
  have hx : ∃ ad, x.den E loc = .pointer (some ad) := by
    have key : ∀ n l, loadN G hp x n = some l → ∃ ad, x.den E loc = .pointer (some ad) := fun n l hl => (loadN_ok E loc P G hr hg hl).imp fun _ h => h.1
    unfold loadS at h
    cases ha : isAggT P t <;> rw [ha] at h
    · cases hk : knownT P t <;> rw [hk] at h
      · cases h
      · simp only [Bool.cond_true, Bool.cond_false] at h
        split at h
        · rename_i l hl; exact key _ _ hl
        · cases h
    · simp only [Bool.cond_true] at h
      split at h
      · rename_i l hl; exact key _ _ hl
      · cases h
  obtain ⟨ad, hx⟩ := hx
  refine ⟨ad, hx, ?_, h2⟩
  rw [hx] at h1
  simpa only [Instr.loadAt, Instr.sureAddr, Sem.run_bind, Sem.run_pure, Result.andThen_ok] using h1
def resSem (ts : Array Value) : ResultVar → Sem Value
  | .tmp t => pure (ts.getD t undef)
  | .cell a t => do loadVar t (← asAddr (ts.getD a undef))
theorem resV_ok {loc : Nat → Nat × Nat} {tm : Tr SV} {hp : Tr SBlk} {nx : Nat} {a : Act} {w : World} (s : St E P F loc tm hp nx a w) (hg : GOk E G w) {r : ResultVar} {v : SV} (h : resV P G tm hp r = some v) :
    (resSem a.tmps r).run P w = .ok (v.den E loc) w ∧ v.wf E nx := by
  cases r with
  | tmp t =>
    simp only [resV] at h
    obtain ⟨h1, h2⟩ := s.tr t v h
    exact ⟨by simp [resSem, h1], h2⟩
  | cell x t =>
    simp only [resV] at h
    cases hv : tm.get x with
    | none => rw [hv] at h; cases h
    | some u =>
      rw [hv] at h
      obtain ⟨h1, h2⟩ := s.tr x u hv
      obtain ⟨ad, h3, h4, h5⟩ := loadVar_ok s.hr hg h
      refine ⟨?_, h5⟩
      simp only [resSem, Array.getD_eq_getD_getElem?, h1, Option.getD_some, h3, asAddr, Sem.run_bind, Sem.run_pure, Result.andThen_ok, h4]
theorem resL_ok {loc : Nat → Nat × Nat} {tm : Tr SV} {hp : Tr SBlk} {nx : Nat} {a : Act} {w : World} (s : St E P F loc tm hp nx a w) (hg : GOk E G w) : ∀ {rs : List ResultVar} {vs : List SV}, resL P G tm hp rs = some vs →
    (rs.mapM (resSem a.tmps)).run P w = .ok (denL E loc vs) w ∧ wfL E nx vs := by
  intro rs
  induction rs with
  | nil => intro vs h; cases h; exact ⟨by simp [denL], trivial⟩
  | cons r rs ih =>
    intro vs h
    simp only [resL] at h
    cases hv : resV P G tm hp r with
    | none => rw [hv] at h; cases h
    | some v =>
      cases hl : resL P G tm hp rs with
      | none => rw [hv, hl] at h; cases h
      | some us =>
        rw [hv, hl] at h
        cases h
        obtain ⟨h1, h2⟩ := resV_ok s hg hv
        obtain ⟨h3, h4⟩ := ih hl
        refine ⟨?_, h2, h4⟩
        simp only [List.mapM_cons, Sem.run_bind, h1, Result.andThen_ok, h3, Sem.run_pure, denL]
theorem resR_ok {loc : Nat → Nat × Nat} {tm : Tr SV} {hp : Tr SBlk} {nx : Nat} {a : Act} {w : World} (s : St E P F loc tm hp nx a w) (hg : GOk E G w) {fn : Func} {v : SV} (h : resR P G tm hp fn.results.toList = some v) :
    (results fn a.tmps).run P w = .ok (v.den E loc) w ∧ v.wf E nx := by
  unfold resR at h
  split at h
  · rename_i vs hvs
    obtain ⟨h1, h2⟩ := resL_ok s hg hvs
    have hm : (fn.results.mapM (resSem a.tmps)).run P w = .ok (denL E loc vs).toArray w := by
      rw [Array.mapM_eq_mapM_toList]
      simp [h1]
    have hres : results fn a.tmps = (fn.results.mapM (resSem a.tmps) >>= fun vs => pure (if h : vs.size = 1 then vs[0] else .tuple vs)) := rfl
    rw [hres]
    simp only [Sem.run_bind, hm, Result.andThen_ok, Sem.run_pure]
    split at h
    · cases h
      exact ⟨by simp [denL], h2.1⟩
    · rename_i hne
      cases h
      refine ⟨?_, h2⟩
      have : ¬ (denL E loc vs).toArray.size = 1 := by
        simp only [List.size_toArray, denL_length]
        intro hl
        match vs, hl with
        | [v], _ => exact hne v rfl
      simp only [dif_neg this, SV.den]
  · cases h

end Sx
end Go.Proofs.YtfdggebddcoeeaaGreatDoor
end

/-
  Calls: what a body leaves, and what the caller keeps of it.
-/
noncomputable section
namespace Go.Proofs.YtfdggebddcoeeaaGreatDoor
namespace Sx
open Go Go.RowKit
variable {E : Env} {P : Program} {G : Gl} {F : Fr}

/-- a body has left -/
structure Fin (E : Env) (P : Program) (F : Fr) (loc : Nat → Nat × Nat) (v : SV) (hp : Tr SBlk) (nx : Nat) (val : Value) (w : World) : Prop where
  den : val = v.den E loc
  wf : v.wf E nx
  hr : HRel E loc P nx hp w
  le : F.lo ≤ nx
  bel : Below F.w0.heap.size F.w0 w
  own : Own loc F.lo F.w0.heap.size nx
  agree : ∀ b, b < F.lo → loc b = F.loc0 b
theorem Fin.view {loc : Nat → Nat × Nat} {v v2 : SV} {hp hp2 : Tr SBlk} {nx nx' : Nat} {val : Value} {w : World} (s : Fin E P F loc v hp nx val w) (hn : nx ≤ nx')
    (ht : ∀ loc nx, v.wf E nx → v2.den E loc = v.den E loc ∧ v2.wf E nx)
    (hh : ∀ b k, hp2.get b = some k → ∃ k0, hp.get b = some k0 ∧ k.ty = k0.ty ∧ k.ex = k0.ex ∧ (k.fr = false → k0.fr = false) ∧ k.cells.length = k0.cells.length ∧ allOne k.cells = true ∧
      ∀ loc nx, wfL E nx k0.cells → denL E loc k.cells = denL E loc k0.cells ∧ wfL E nx k.cells) : ∃ loc', Fin E P F loc' v2 hp2 nx' val w := by
  have hl : ∀ b, b < nx → (fun b => if b < nx then loc b else (F.w0.heap.size, 0)) b = loc b := fun b hb => if_pos hb
  have hr' := hrel_congr E P s.hr hl hn
  refine ⟨(fun b => if b < nx then loc b else (F.w0.heap.size, 0)), ?_, ?_, ⟨fun b k h => ?_, fun b k h => ?_, fun b k h => ?_, fun b k h => ?_, fun b k b' k' h h' he => ?_⟩, Nat.le_trans s.le hn, s.bel, fun b h1 h2 => ?_, fun b hb => ?_⟩
  · have h1 := SV.den_congr E loc hl v s.wf
    rw [s.den, ← h1]
    exact (ht _ nx' (SV.wf_mono E hn v s.wf)).1.symm
  · exact (ht loc nx' (SV.wf_mono E hn v s.wf)).2
  · obtain ⟨k0, h1, _⟩ := hh b k h
    exact hr'.lt b k0 h1
  · obtain ⟨k0, h1, h2, h3, h4, h5, h6, h7⟩ := hh b k h
    exact brel_view (nx := nx') h2 h3 h4 h5 (h7 _ nx' (hr'.wf b k0 h1)).1 (hr'.rel b k0 h1)
  · obtain ⟨k0, h1, h2, h3, h4, h5, h6, h7⟩ := hh b k h
    exact (h7 (fun b => if b < nx then loc b else (F.w0.heap.size, 0)) nx' (hr'.wf b k0 h1)).2
  · obtain ⟨k0, h1, h2, h3, h4, h5, h6, h7⟩ := hh b k h
    exact h6
  · obtain ⟨k0, h1, _⟩ := hh b k h
    obtain ⟨k0', h1', _⟩ := hh b' k' h'
    exact hr'.inj b k0 b' k0' h1 h1' he
  · by_cases hb : b < nx
    · simp only [if_pos hb]; exact s.own b h1 hb
    · simp only [if_neg hb]; exact Nat.le_refl _
  · simp only [if_pos (Nat.lt_of_lt_of_le hb s.le)]; exact s.agree b hb
theorem Fin.left {c : SE} (hc : c.den E ≠ 0) {loc : Nat → Nat × Nat} {v v' u : SV} (hu : mgX c v v' = some u) {hp hp' : Tr SBlk} {nx nx' : Nat} {val : Value} {w : World} (s : Fin E P F loc v hp nx val w) : ∃ loc', Fin E P F loc' u (mgH c hp hp') (maxN nx nx') val w := by
  refine s.view (maxN_left nx nx') (fun loc nx hw => (mgX_ok E hu loc nx).1 hc hw) (fun b k h => ?_)
  obtain ⟨x, y, h1, h2, h3⟩ := mgH_get h
  obtain ⟨a1, a2, a3, a4, a5, a6⟩ := mgB_ok h3
  obtain ⟨b1, b2, b3⟩ := mgL_one a6
  exact ⟨x, h1, a1, a3, fun hf => (a5 hf).1, b2, b1, fun loc nx hw => (mgL_ok E a6 loc nx).1 hc hw⟩
theorem Fin.right {c : SE} (hc : c.den E = 0) {loc : Nat → Nat × Nat} {v v' u : SV} (hu : mgX c v v' = some u) {hp hp' : Tr SBlk} {nx nx' : Nat} {val : Value} {w : World} (s : Fin E P F loc v' hp' nx' val w) : ∃ loc', Fin E P F loc' u (mgH c hp hp') (maxN nx nx') val w := by
  refine s.view (maxN_right nx nx') (fun loc nx hw => (mgX_ok E hu loc nx).2 hc hw) (fun b k h => ?_)
  obtain ⟨x, y, h1, h2, h3⟩ := mgH_get h
  obtain ⟨a1, a2, a3, a4, a5, a6⟩ := mgB_ok h3
  obtain ⟨b1, b2, b3⟩ := mgL_one a6
  exact ⟨y, h2, a2, a4, fun hf => (a5 hf).2, b3, b1, fun loc nx hw => (mgL_ok E a6 loc nx).2 hc hw⟩
theorem finO_ok (hg : GOk E G F.w0) {fn : Func} : ∀ {out : Out} {v : SV} {hp : Tr SBlk} {nx : Nat}, finO P G fn.results.toList out = some (v, hp, nx) → ∀ e a w, Post E P F out e a w →
    (e = .normal ∨ e = .ret) ∧ a.defers = [] ∧ ∃ val, (results fn a.tmps).run P w = .ok val w ∧ ∃ loc, Fin E P F loc v hp nx val w := by
  intro out
  induction out with
  | done ex tm hp0 nx0 =>
    intro v hp nx h e a w hpost
    obtain ⟨rfl, loc, s⟩ := hpost
    have fin : finR hp0 nx0 (resR P G tm hp0 fn.results.toList) = some (v, hp, nx) → a.defers = [] ∧ ∃ val, (results fn a.tmps).run P w = .ok val w ∧ ∃ loc, Fin E P F loc v hp nx val w := by
      intro h
      cases hr : resR P G tm hp0 fn.results.toList with
      | none => rw [hr] at h; cases h
      | some u =>
        rw [hr] at h
        cases h
        obtain ⟨h1, h2⟩ := resR_ok s (s.gok hg) hr
        exact ⟨s.defs, _, h1, loc, rfl, h2, s.hr, s.le, s.bel, s.own, s.agree⟩
    cases ex with
    | normal => exact ⟨.inl rfl, fin h⟩
    | exit i => cases h
    | ret => exact ⟨.inr rfl, fin h⟩
  | split c t f iht ihf =>
    intro v hp nx h e a w hpost
    simp only [finO] at h
    cases h1 : finO P G fn.results.toList t with
    | none => rw [h1] at h; cases h
    | some r1 =>
      obtain ⟨v1, hp1, nx1⟩ := r1
      cases h2 : finO P G fn.results.toList f with
      | none => rw [h1, h2] at h; cases h
      | some r2 =>
        obtain ⟨v2, hp2, nx2⟩ := r2
        rw [h1, h2] at h
        simp only [mgR] at h
        cases h3 : mgX c v1 v2 with
        | none => rw [h3] at h; cases h
        | some u =>
          rw [h3] at h
          cases h
          by_cases hc : c.den E = 0
          · obtain ⟨a1, a2, val, a3, loc, a4⟩ := ihf h2 e a w (hpost.2 hc)
            exact ⟨a1, a2, val, a3, a4.right hc h3⟩
          · obtain ⟨a1, a2, val, a3, loc, a4⟩ := iht h1 e a w (hpost.1 hc)
            exact ⟨a1, a2, val, a3, a4.left hc h3⟩

/-! no address in it -/
theorem flat0_ok {v : SV} (h : flat0 v = true) : ∀ loc loc' nx nx', v.wf E nx → v.den E loc = v.den E loc' ∧ v.wf E nx' := by
  intro loc loc' nx nx' hw
  cases v <;> first | exact ⟨rfl, hw⟩ | (simp [flat0] at h)
theorem flatL_ok : ∀ {l : List SV}, flatL l = true → ∀ loc loc' nx nx', wfL E nx l → denL E loc l = denL E loc' l ∧ wfL E nx' l := by
  intro l
  induction l with
  | nil => intro _ _ _ _ _ _; exact ⟨rfl, trivial⟩
  | cons v l ih =>
    intro h loc loc' nx nx' hw
    simp only [flatL] at h
    cases h1 : flat0 v <;> rw [h1] at h <;> try (cases h; done)
    obtain ⟨a1, a2⟩ := flat0_ok h1 loc loc' nx nx' hw.1
    obtain ⟨b1, b2⟩ := ih h loc loc' nx nx' hw.2
    exact ⟨by simp only [denL, a1, b1], a2, b2⟩
theorem flat1_ok {v : SV} (h : flat1 v = true) : ∀ loc loc' nx nx', v.wf E nx → v.den E loc = v.den E loc' ∧ v.wf E nx' := by
  intro loc loc' nx nx' hw
  cases v <;> simp only [flat1] at h
  case agg l =>
    obtain ⟨a1, a2⟩ := flatL_ok h loc loc' nx nx' hw
    exact ⟨by simp only [SV.den, a1], a2⟩
  all_goals exact flat0_ok h loc loc' nx nx' hw
theorem flat1L_ok : ∀ {l : List SV}, flat1L l = true → ∀ loc loc' nx nx', wfL E nx l → denL E loc l = denL E loc' l ∧ wfL E nx' l := by
  intro l
  induction l with
  | nil => intro _ _ _ _ _ _; exact ⟨rfl, trivial⟩
  | cons v l ih =>
    intro h loc loc' nx nx' hw
    simp only [flat1L] at h
    cases h1 : flat1 v <;> rw [h1] at h <;> try (cases h; done)
    obtain ⟨a1, a2⟩ := flat1_ok h1 loc loc' nx nx' hw.1
    obtain ⟨b1, b2⟩ := ih h loc loc' nx nx' hw.2
    exact ⟨by simp only [denL, a1, b1], a2, b2⟩
theorem flat_ok {v : SV} (h : flat v = true) : ∀ loc loc' nx nx', v.wf E nx → v.den E loc = v.den E loc' ∧ v.wf E nx' := by
  intro loc loc' nx nx' hw
  cases v <;> simp only [flat] at h
  case tup l =>
    obtain ⟨a1, a2⟩ := flat1L_ok h loc loc' nx nx' hw
    exact ⟨by simp only [SV.den, a1], a2⟩
  all_goals exact flat1_ok h loc loc' nx nx' hw

/-! norm: nothing -/
theorem normN_eq (n : Nat) (k : Nat → R) : normN n k = k n := by cases n <;> rfl
theorem normK_eq (n : IntKind) (k : IntKind → R) : normK n k = k n := by cases n <;> rfl
theorem normO_eq (n : BinOp) (k : BinOp → R) : normO n k = k n := by cases n <;> rfl
theorem normE_eq : ∀ (e : SE) (k : SE → R), normE e k = k e := by
  intro e
  induction e <;> intro k <;> simp_all only [normE, normN_eq, normK_eq, normO_eq]
  rename_i n
  cases n <;> simp only [normN_eq]
theorem normB_eq : ∀ (l : List UInt8) (k : List UInt8 → R), normB l k = k l := by
  intro l
  induction l <;> intro k <;> simp_all only [normB]
theorem normV_eq (v : SV) (k : SV → R) : normV v k = k v := by cases v <;> simp only [normV, normE_eq, normK_eq, normB_eq]
theorem normL_eq : ∀ (l : List SV) (k : List SV → R), normL l k = k l := by
  intro l
  induction l <;> intro k <;> simp_all only [normL, normV_eq]
theorem normW_eq (v : SV) (k : SV → R) : normW v k = k v := by cases v <;> simp only [normW, normL_eq, normV_eq]
theorem normA_eq : ∀ (l : List SV) (k : List SV → R), normA l k = k l := by
  intro l
  induction l <;> intro k <;> simp_all only [normA, normW_eq]

end Sx
end Go.Proofs.YtfdggebddcoeeaaGreatDoor
end

/-
  Calls, whole.
-/
noncomputable section
namespace Go.Proofs.YtfdggebddcoeeaaGreatDoor
namespace Sx
open Go Go.RowKit
variable {E : Env} {P : Program} {G : Gl} {F : Fr}

theorem hrel_below {loc : Nat → Nat × Nat} {nx : Nat} {hp : Tr SBlk} {w w' : World} (hr : HRel E loc P nx hp w) (h : Below w.heap.size w w') : HRel E loc P nx hp w' :=
  ⟨hr.lt, fun b k hb => brel_congr E loc P (nx := nx) (fun _ _ => rfl) (hr.lt b k hb) (hr.wf b k hb) (h.block _ (hrel_lt E loc P hr hb)) (hr.rel b k hb), hr.wf, hr.one, hr.inj⟩
theorem hrel_lf (loc : Nat → Nat × Nat) (nx : Nat) (w : World) : HRel E loc P nx .lf w :=
  ⟨fun b k h => (by cases h), fun b k h => (by cases h), fun b k h => (by cases h), fun b k h => (by cases h), fun b k b' k' h => (by cases h)⟩

/-- what is brought into the caller's heap -/
theorem bring_ok {nx n : Nat} {loc : Nat → Nat × Nat} {h : Tr SBlk} {w w' : World} (hh : HRel E loc P n h w') (hown : Own loc nx w.heap.size n) : ∀ {l : List SV} {hp hp' : Tr SBlk}, bring nx h l hp = some hp' → HRel E loc P n hp w' →
    (∀ b k, hp.get b = some k → (b < nx ∧ (loc b).1 < w.heap.size) ∨ (nx ≤ b ∧ h.get b = some k)) → HRel E loc P n hp' w' := by
  intro l
  induction l with
  | nil => intro hp hp' hb hr _; cases hb; exact hr
  | cons v l ih =>
    intro hp hp' hb hr hin
    have flatCase : cond (flat1 v) (bring nx h l hp) none = some hp' → HRel E loc P n hp' w' := fun hb => by
      cases h1 : flat1 v <;> rw [h1] at hb
      · cases hb
      · exact ih hb hr hin
    cases v <;> simp only [bring] at hb <;> try exact flatCase hb
    rename_i b o m c
    cases h1 : Nat.ble nx b <;> rw [h1] at hb <;> simp only [Bool.cond_true, Bool.cond_false] at hb
    · exact ih hb hr hin
    · have hle := Nat.le_of_ble_eq_true h1
      cases hk : h.get b with
      | none => rw [hk] at hb; cases hb
      | some k =>
        rw [hk] at hb
        simp only at hb
        cases h2 : flatL k.cells <;> rw [h2] at hb <;> try (cases hb; done)
        have hown' := hown b hle (hh.lt b k hk)
        have new : ∀ b' k', (hp.set b k).get b' = some k' → (b' = b ∧ k = k') ∨ (b' ≠ b ∧ hp.get b' = some k') := fun b' k' hg => Tr.get_set hg
        refine ih hb ⟨fun b' k' hg => ?_, fun b' k' hg => ?_, fun b' k' hg => ?_, fun b' k' hg => ?_, fun b1 k1 b2 k2 hg1 hg2 he => ?_⟩ (fun b' k' hg => ?_)
        · rcases new b' k' hg with ⟨rfl, rfl⟩ | ⟨_, h3⟩
          · exact hh.lt _ _ hk
          · exact hr.lt _ _ h3
        · rcases new b' k' hg with ⟨rfl, rfl⟩ | ⟨_, h3⟩
          · exact hh.rel _ _ hk
          · exact hr.rel _ _ h3
        · rcases new b' k' hg with ⟨rfl, rfl⟩ | ⟨_, h3⟩
          · exact hh.wf _ _ hk
          · exact hr.wf _ _ h3
        · rcases new b' k' hg with ⟨rfl, rfl⟩ | ⟨_, h3⟩
          · exact hh.one _ _ hk
          · exact hr.one _ _ h3
        · have cross : ∀ b' k', hp.get b' = some k' → (loc b').1 = (loc b).1 → b' = b := fun b' k' h3 he => by
            rcases hin b' k' h3 with ⟨h4, h5⟩ | ⟨h4, h5⟩
            · omega
            · exact hh.inj _ _ _ _ h5 hk he
          rcases new b1 k1 hg1 with ⟨rfl, rfl⟩ | ⟨e1, h3⟩ <;> rcases new b2 k2 hg2 with ⟨rfl, rfl⟩ | ⟨e2, h4⟩
          · rfl
          · exact (cross b2 k2 h4 he.symm).symm
          · exact cross b1 k1 h3 he
          · exact hr.inj _ _ _ _ h3 h4 he
        · rcases new b' k' hg with ⟨rfl, rfl⟩ | ⟨_, h3⟩
          · exact .inr ⟨hle, hk⟩
          · exact hin b' k' h3
theorem leave_ok {nx : Nat} {loc0 loc : Nat → Nat × Nat} {hp : Tr SBlk} {w w' : World} (hr : HRel E loc0 P nx hp w) {N : Nat} {v v' : SV} {h hp' : Tr SBlk} {n nx' : Nat} {val : Value} (f : Fin E P ⟨N, nx, w, loc0⟩ loc v h n val w')
    (hl : leave nx hp (some (v, h, n)) = some (v', hp', nx')) : ∃ loc', val = v'.den E loc' ∧ Step E loc0 P w.heap.size nx nx nx' hp' w v' loc' w' := by
  have hr' : HRel E loc P n hp w' := hrel_congr E P (hrel_below hr f.bel) f.agree f.le
  simp only [leave] at hl
  cases hf : flat v <;> rw [hf] at hl
  · simp only [Bool.cond_false] at hl
    split at hl
    · rename_i h' hb
      cases hl
      refine ⟨loc, f.den, f.le, f.agree, bring_ok (w := w) f.hr f.own hb hr' (fun b k hg => .inl ⟨hr.lt b k hg, ?_⟩), f.bel, f.own, f.wf⟩
      have : loc b = loc0 b := f.agree b (hr.lt b k hg)
      rw [this]
      exact hrel_lt E loc0 P hr hg
    · cases hl
      exact ⟨loc, f.den, f.le, f.agree, f.hr, f.bel, f.own, f.wf⟩
  · cases hl
    refine ⟨loc0, ?_, Nat.le_refl _, fun _ _ => rfl, hrel_below hr f.bel, f.bel, fun b h1 h2 => absurd h2 (by omega), (flat_ok hf loc loc n nx f.wf).2⟩
    rw [f.den]
    exact (flat_ok hf loc loc0 n nx f.wf).1

/-- a call in an empty heap, brought into a heap -/
theorem bringE_ok {nx n : Nat} {loc loc1 : Nat → Nat × Nat} {h : Tr SBlk} {w w' : World} (hh : HRel E loc1 P n h w') (hown : Own loc1 0 w.heap.size n) {loc' : Nat → Nat × Nat} (hlo : ∀ b, b < nx → loc' b = loc b) (hhi : ∀ b, loc' (nx + b) = loc1 b) :
    ∀ {l : List SV} {hp hp' : Tr SBlk}, bringE nx h l hp = some hp' → wfL E n l → HRel E loc' P (nx + n) hp w' →
    (∀ b k, hp.get b = some k → (b < nx ∧ (loc b).1 < w.heap.size) ∨ (∃ b0, b = nx + b0 ∧ h.get b0 = some k)) → HRel E loc' P (nx + n) hp' w' ∧ denL E loc' (shiftL nx l) = denL E loc1 l ∧ wfL E (nx + n) (shiftL nx l) := by
  intro l
  induction l with
  | nil => intro hp hp' hb _ hr _; cases hb; exact ⟨hr, rfl, trivial⟩
  | cons v l ih =>
    intro hp hp' hb hw hr hin
    have flatCase : cond (flat1 v) (bringE nx h l hp) none = some hp' → shiftV nx v = v → HRel E loc' P (nx + n) hp' w' ∧ denL E loc' (shiftL nx (v :: l)) = denL E loc1 (v :: l) ∧ wfL E (nx + n) (shiftL nx (v :: l)) := fun hb hs => by
      cases h1 : flat1 v <;> rw [h1] at hb
      · cases hb
      · obtain ⟨a1, a2, a3⟩ := ih hb hw.2 hr hin
        obtain ⟨b1, b2⟩ := flat1_ok h1 loc1 loc' n (nx + n) hw.1
        refine ⟨a1, ?_, ?_⟩
        · simp only [shiftL, denL, hs, a2, b1]
        · simp only [shiftL, hs]; exact ⟨b2, a3⟩
    cases v <;> simp only [bringE] at hb <;> try exact flatCase hb rfl
    rename_i b o m c
    cases hk : h.get b with
    | none => rw [hk] at hb; cases hb
    | some k =>
      rw [hk] at hb
      simp only at hb
      cases h2 : flatL k.cells <;> rw [h2] at hb <;> try (cases hb; done)
      simp only [Bool.cond_true] at hb
      have hbn := hh.lt b k hk
      have hown' := hown b (Nat.zero_le _) hbn
      obtain ⟨c1, c2⟩ := flatL_ok h2 loc1 loc' n (nx + n) (hh.wf b k hk)
      have new : ∀ b' k', (hp.set (Nat.add nx b) k).get b' = some k' → (b' = nx + b ∧ k = k') ∨ (b' ≠ nx + b ∧ hp.get b' = some k') := fun b' k' hg => Tr.get_set hg
      have key := ih hb hw.2 ⟨fun b' k' hg => ?_, fun b' k' hg => ?_, fun b' k' hg => ?_, fun b' k' hg => ?_, fun b1 k1 b2 k2 hg1 hg2 he => ?_⟩ (fun b' k' hg => ?_)
      · obtain ⟨a1, a2, a3⟩ := key
        refine ⟨a1, ?_, ?_⟩
        · simp only [shiftL, denL, a2]
          congr 1
          have hb' : loc' (Nat.add nx b) = loc1 b := hhi b
          cases c <;> simp only [shiftV, SV.den, Cap.den, hb']
        · exact ⟨Nat.add_lt_add_left hbn nx, a3⟩
      · rcases new b' k' hg with ⟨rfl, rfl⟩ | ⟨_, h3⟩
        · omega
        · exact hr.lt _ _ h3
      · rcases new b' k' hg with ⟨rfl, rfl⟩ | ⟨_, h3⟩
        · obtain ⟨cur, fz, rest, g1, g2, g3, g4, g5⟩ := hh.rel _ _ hk
          exact ⟨cur, fz, rest, by rw [hhi]; exact g1, g2, by rw [← c1]; exact g3, g4, by rw [hhi]; exact g5⟩
        · exact hr.rel _ _ h3
      · rcases new b' k' hg with ⟨rfl, rfl⟩ | ⟨_, h3⟩
        · exact c2
        · exact hr.wf _ _ h3
      · rcases new b' k' hg with ⟨rfl, rfl⟩ | ⟨_, h3⟩
        · exact hh.one _ _ hk
        · exact hr.one _ _ h3
      · have cross : ∀ b' k', hp.get b' = some k' → (loc' b').1 = (loc' (nx + b)).1 → b' = nx + b := fun b' k' h3 he => by
          rw [hhi] at he
          rcases hin b' k' h3 with ⟨h4, h5⟩ | ⟨b0, rfl, h5⟩
          · rw [hlo b' h4] at he; omega
          · rw [hhi] at he
            rw [hh.inj _ _ _ _ h5 hk he]
        rcases new b1 k1 hg1 with ⟨rfl, rfl⟩ | ⟨e1, h3⟩ <;> rcases new b2 k2 hg2 with ⟨rfl, rfl⟩ | ⟨e2, h4⟩
        · rfl
        · exact (cross b2 k2 h4 he.symm).symm
        · exact cross b1 k1 h3 he
        · exact hr.inj _ _ _ _ h3 h4 he
      · rcases new b' k' hg with ⟨rfl, rfl⟩ | ⟨_, h3⟩
        · exact .inr ⟨b, rfl, hk⟩
        · exact hin b' k' h3
theorem reloc_ok {nx : Nat} {loc loc1 : Nat → Nat × Nat} {hp : Tr SBlk} {w w' : World} (hr : HRel E loc P nx hp w) {v v' : SV} {h hp' : Tr SBlk} {n nx' : Nat} {val : Value} (hden : val = v.den E loc1) (f : Step E loc P w.heap.size 0 0 n h w v loc1 w')
    (hl : reloc hp nx (some (v, h, n)) = some (v', hp', nx')) : ∃ loc', val = v'.den E loc' ∧ Step E loc P w.heap.size nx nx nx' hp' w v' loc' w' := by
  simp only [reloc] at hl
  cases hf : flat v <;> rw [hf] at hl
  · simp only [Bool.cond_false] at hl
    have hlo : ∀ b, b < nx → (fun b => if b < nx then loc b else loc1 (b - nx)) b = loc b := fun b hb => if_pos hb
    have hhi : ∀ b, (fun b => if b < nx then loc b else loc1 (b - nx)) (nx + b) = loc1 b := fun b => by
      simp only [if_neg (show ¬ nx + b < nx by omega), Nat.add_sub_cancel_left]
    have hr' : HRel E (fun b => if b < nx then loc b else loc1 (b - nx)) P (nx + n) hp w' := hrel_congr E P (hrel_below hr f.bel) hlo (Nat.le_add_right nx n)
    have hin : ∀ b k, hp.get b = some k → (b < nx ∧ (loc b).1 < w.heap.size) ∨ (∃ b0, b = nx + b0 ∧ h.get b0 = some k) := fun b k hg => .inl ⟨hr.lt b k hg, hrel_lt E loc P hr hg⟩
    have hown : Own (fun b => if b < nx then loc b else loc1 (b - nx)) nx w.heap.size (nx + n) := fun b h1 h2 => by
      simp only [if_neg (show ¬ b < nx by omega)]
      exact f.own (b - nx) (Nat.zero_le _) (by omega)
    cases v <;> simp only at hl <;> try (cases hl; done)
    case sl b o m c =>
      cases hb : bringE nx h [.sl b o m c] hp with
      | none => rw [hb] at hl; cases hl
      | some hp1 =>
        rw [hb] at hl
        cases hl
        obtain ⟨a1, a2, a3⟩ := bringE_ok (w := w) f.hr f.own hlo hhi hb ⟨f.wf, trivial⟩ hr' hin
        refine ⟨_, ?_, Nat.le_add_right nx n, hlo, a1, f.bel, hown, a3.1⟩
        simp only [shiftL, denL, List.cons.injEq, and_true, shiftV] at a2
        rw [hden, ← a2]
    case tup l =>
      cases hb : bringE nx h l hp with
      | none => rw [hb] at hl; cases hl
      | some hp1 =>
        rw [hb] at hl
        cases hl
        obtain ⟨a1, a2, a3⟩ := bringE_ok (w := w) f.hr f.own hlo hhi hb f.wf hr' hin
        refine ⟨_, ?_, Nat.le_add_right nx n, hlo, a1, f.bel, hown, a3⟩
        rw [hden]
        simp only [SV.den, a2]
  · cases hl
    refine ⟨loc, ?_, Nat.le_refl _, fun _ _ => rfl, hrel_below hr f.bel, f.bel, fun b h1 h2 => absurd h2 (by omega), (flat_ok hf loc loc n nx f.wf).2⟩
    rw [hden]
    exact (flat_ok hf loc1 loc n nx f.wf).1

end Sx
end Go.Proofs.YtfdggebddcoeeaaGreatDoor
end

/-
  The evaluator is sound, given its summaries and its drawn regions.
-/
noncomputable section
namespace Go.Proofs.YtfdggebddcoeeaaGreatDoor
namespace Sx
open Go Go.RowKit
variable {E : Env} {P : Program} {G : Gl}

/-- what is asked of every function of the program -/
def okFn (fn : Func) : Bool := match fn.body with
  | some c => boundC fn.ntmps c && !(fn.name == "runtime.NumGoroutine")
  | none => true
variable (P) in
def OkP : Prop := ∀ (f : Nat) (fn : Func), P.funcs[f]? = some fn → okFn fn = true
variable (E P G) in
/-- what is asked of drawn regions -/
def DrawOk : Prop := ∀ (F : Fr) (cf : CF), CFOk E P G cf → GOk E G F.w0 → ∀ id ops, dstIn F.n ops.toList = true → ROk E P F (runR P G cf F.lo ops true) (fun Q a w => (Code.region id ops true).wp P Q a w)
variable (E P G) in
def SmOk (f : FuncId) (s : Sm) : Prop := ∀ args hp nx v hp' nx', s args hp nx = some (v, hp', nx') → ∀ loc w, HRel E loc P nx hp w → GOk E G w → wfL E nx args →
  CX P f (denL E loc args).toArray w (fun u w' => ∃ loc', u = v.den E loc' ∧ Step E loc P w.heap.size nx nx nx' hp' w v loc' w')
variable (E P G) in
def SumsOk (sums : Tr Sm) : Prop := ∀ f s, sums.get f = some s → SmOk E P G f s

theorem boundC_mono {n m : Nat} (h : n ≤ m) : ∀ {c : Code}, boundC n c = true → boundC m c = true := by
  have hd : ∀ {l : List Oper}, dstIn n l = true → dstIn m l = true := by
    intro l
    induction l with
    | nil => intro h; exact h
    | cons o l ih =>
      intro h'
      simp only [dstIn] at h' ⊢
      cases ho : o.dst with
      | none => rw [ho] at h'; exact ih h'
      | some t =>
        rw [ho] at h'
        simp only at h' ⊢
        cases h1 : Nat.blt t n <;> rw [h1] at h' <;> try (cases h'; done)
        have : Nat.blt t m = true := by have := blt_lt h1; simp [Nat.blt_eq]; omega
        rw [this]
        exact ih h'
  intro c
  induction c with
  | region id ops d => exact hd
  | seq a b iha ihb =>
    intro h'
    simp only [boundC] at h' ⊢
    cases h1 : boundC n a <;> rw [h1] at h' <;> try (cases h'; done)
    rw [iha h1]; exact ihb h'
  | cond x a b iha ihb =>
    intro h'
    simp only [boundC] at h' ⊢
    cases h1 : boundC n a <;> rw [h1] at h' <;> try (cases h'; done)
    rw [iha h1]; exact ihb h'
  | block id a ih => exact ih
  | loop a ih => exact ih
  | _ => intro _; rfl
theorem tmOf_get : ∀ {l : List SV} {i : Nat} {t : Tr SV} {k : Nat} {v : SV}, (tmOf l i t).get k = some v → (i ≤ k ∧ l[k - i]? = some v) ∨ t.get k = some v := by
  intro l
  induction l with
  | nil => intro i t k v h; exact .inr h
  | cons x l ih =>
    intro i t k v h
    simp only [tmOf] at h
    rcases ih h with ⟨h1, h2⟩ | h2
    · refine .inl ⟨by omega, ?_⟩
      have : k - i = (k - (i + 1)) + 1 := by omega
      rw [this, List.getElem?_cons_succ]; exact h2
    · rcases Tr.get_set h2 with ⟨rfl, rfl⟩ | ⟨_, h3⟩
      · exact .inl ⟨Nat.le_refl _, by simp⟩
      · exact .inr h3
theorem callH_ok (hP : OkP P) (hD : DrawOk E P G) {cf : CF} (hcf : CFOk E P G cf) {f : FuncId} {args : List SV} {hp : Tr SBlk} {nx : Nat} {v : SV} {hp' : Tr SBlk} {nx' : Nat}
    (h : callH P G cf P.funcs[f]? args hp nx = some (v, hp', nx')) {loc : Nat → Nat × Nat} {w : World} (hr : HRel E loc P nx hp w) (hg : GOk E G w) (hw : wfL E nx args) :
    CX P f (denL E loc args).toArray w (fun u w' => ∃ loc', u = v.den E loc' ∧ Step E loc P w.heap.size nx nx nx' hp' w v loc' w') := by
  unfold callH at h
  cases hfn : P.funcs[f]? with
  | none => rw [hfn] at h; cases h
  | some fn =>
    rw [hfn] at h
    simp only at h
    cases hb : fn.body with
    | none => rw [hb] at h; cases h
    | some c =>
      rw [hb] at h
      simp only at h
      have hok := hP f fn hfn
      simp only [okFn, hb, Bool.and_eq_true, Bool.not_eq_true'] at hok
      have hcall : (callFunc f (denL E loc args).toArray).run P w = .ok (.enter f (denL E loc args).toArray) w := by
        have hn : (fn.name == "runtime.NumGoroutine") = false := hok.2
        have hpr : (program).run P w = .ok P w := rfl
        simp only [callFunc, Sem.run_bind, hpr, Result.andThen_ok, hfn, hn, hb, Option.isNone_some, Bool.false_eq_true, if_false, Sem.run_pure]
      unfold CX
      rw [hcall]
      simp only
      cases he : exec P G cf nx c (tmOf args 0 .lf) hp nx with
      | none => rw [he] at h; cases h
      | some o =>
        rw [he] at h
        simp only at h
        cases hfin : finO P G fn.results.toList o with
        | none => rw [hfin] at h; cases h
        | some r =>
          obtain ⟨v1, h1, n1⟩ := r
          rw [hfin] at h
          let N := args.length + (fn.ntmps - args.length)
          have hbN : boundC N c = true := boundC_mono (by omega) hok.1
          have s0 : St E P ⟨N, nx, w, loc⟩ loc (tmOf args 0 .lf) hp nx { tmps := (denL E loc args).toArray ++ Array.replicate (fn.ntmps - (denL E loc args).toArray.size) undef, defers := [] } w := by
            refine ⟨by simp [denL_length, N], rfl, fun t u ht => ?_, hr, Nat.le_refl _, Below.refl _ w, fun b h1 h2 => absurd h2 (Nat.not_lt_of_le h1), fun _ _ => rfl⟩
            rcases tmOf_get ht with ⟨_, h2⟩ | h2
            · have h3 : args[t]? = some u := by simpa using h2
              have hlt : t < args.length := (List.getElem?_eq_some_iff.1 h3).1
              refine ⟨?_, wfL_get E hw h3⟩
              rw [Array.getElem?_append_left (by simp [denL_length]; exact hlt)]
              simp only [List.getElem?_toArray, denL_eq, List.getElem?_map, h3, Option.map_some]
            · cases h2
          refine calls_of_wp hfn hb ?_
          refine exec_ok (F := ⟨N, nx, w, loc⟩) hcf hg (fun id ops hd => hD ⟨N, nx, w, loc⟩ cf hcf hg id ops hd) hbN _ _ _ _ he loc _ w s0 _ (fun e a w' hpost => ?_)
          obtain ⟨e1, e2, val, e3, loc1, e4⟩ := finO_ok hg hfin e a w' hpost
          obtain ⟨loc', e5, e6⟩ := leave_ok hr e4 h
          rcases e1 with rfl | rfl <;> exact ⟨e2, val, e3, loc', e5, e6⟩
theorem cx_mono {f : FuncId} {args : Array Value} {w : World} {R R' : Value → World → Prop} (h : CX P f args w R) (hr : ∀ v w', R v w' → R' v w') : CX P f args w R' := by
  unfold CX at *
  split at h
  · rename_i v w' heq; exact hr _ _ h
  · refine Calls.mono h fun e w'' he => ?_
    cases e <;> first | exact hr _ _ he | exact he
  · exact h.elim
theorem callB_ok (hP : OkP P) (hD : DrawOk E P G) {cf : CF} (hcf : CFOk E P G cf) {f : FuncId} {args : List SV} {hp : Tr SBlk} {nx : Nat} {v : SV} {hp' : Tr SBlk} {nx' : Nat}
    (h : callB P G cf P.funcs[f]? args hp nx = some (v, hp', nx')) {loc : Nat → Nat × Nat} {w : World} (hr : HRel E loc P nx hp w) (hg : GOk E G w) (hw : wfL E nx args) :
    CX P f (denL E loc args).toArray w (fun u w' => ∃ loc', u = v.den E loc' ∧ Step E loc P w.heap.size nx nx nx' hp' w v loc' w') := by
  unfold callB at h
  cases hf : flat1L args <;> rw [hf] at h
  · exact callH_ok hP hD hcf h hr hg hw
  · simp only [Bool.cond_true, normA_eq] at h
    cases hc : callH P G cf P.funcs[f]? args .lf 0 with
    | none => rw [hc] at h; cases h
    | some r =>
      obtain ⟨v1, h1, n1⟩ := r
      rw [hc] at h
      have hfl := flat1L_ok hf loc loc nx 0 hw
      refine cx_mono (callH_ok hP hD hcf hc (hrel_lf loc 0 w) hg hfl.2) fun u w' ⟨loc1, e1, e2⟩ => ?_
      exact reloc_ok hr e1 ⟨e2.le, fun b hb => absurd hb (by omega), e2.hr, e2.bel, e2.own, e2.wf⟩ h
theorem call_ok (hP : OkP P) (hD : DrawOk E P G) {sums : Tr Sm} (hS : SumsOk E P G sums) : ∀ n, CFOk E P G (call P G sums n) := by
  intro n
  induction n with
  | zero => intro f args hp nx v hp' nx' h; cases h
  | succ n ih =>
    intro f args hp nx v hp' nx' h loc w hr hg hw
    simp only [call, callS] at h
    cases hs : sums.get f with
    | none => rw [hs] at h; exact callB_ok hP hD ih h hr hg hw
    | some s =>
      rw [hs] at h
      simp only at h
      cases hv : s args hp nx with
      | none => rw [hv] at h; exact callB_ok hP hD ih h hr hg hw
      | some r =>
        rw [hv] at h
        cases h
        exact hS f s hs _ _ _ _ _ _ hv loc w hr hg hw

end Sx
end Go.Proofs.YtfdggebddcoeeaaGreatDoor
end

/-
  Regions that draw their order: a derivation with loads that are pending.
-/
noncomputable section
namespace Go.Proofs.YtfdggebddcoeeaaGreatDoor
namespace Sx
open Go Go.RowKit

section
variable {P : Program} {ops : Array Oper} {Q : Exit → Act → World → Prop} {sil : Nat → Bool}

/-- all that number j waits for has come up where j has -/
def ClosedP (ops : Array Oper) (L : Nat → Prop) : Prop := ∀ j o, L j → ops[j]? = some o → ∀ e ∈ o.after, Region.binds .any e = true → L e.on
def Up (T : Array Bool) (j : Nat) : Prop := T.getD j false = true
/-- number i may still be to come, with all of T that acts come up -/
def MayPend (ops : Array Oper) (sil : Nat → Bool) (T : Array Bool) (i : Nat) : Prop :=
  ∃ L : Nat → Prop, ClosedP ops L ∧ (∀ j, L j → Up T j) ∧ ¬ L i ∧ (∀ j, Up T j → sil j = false → L j)
theorem up_set {T : Array Bool} {i j : Nat} (hi : i < T.size) : Up (T.setIfInBounds i true) j ↔ (j = i ∨ Up T j) := by
  unfold Up
  by_cases h : i = j
  · subst h; simp [hi]
  · have h' : ¬ j = i := fun e => h e.symm
    simp [Array.getElem?_setIfInBounds_ne h, h']
theorem up_set' {T : Array Bool} {i j : Nat} (h : Up T j) : Up (T.setIfInBounds i true) j := getD_set_true h
theorem getD_lt {T : Array Bool} {i : Nat} (h : T.getD i true = false) : i < T.size := by
  rcases Nat.lt_or_ge i T.size with h' | h'
  · exact h'
  · simp [Array.getElem?_eq_none h'] at h
theorem ready_not {T : Array Bool} {i : Nat} (h : i ∈ Region.ready .any ops T) : i < T.size ∧ ¬ Up T i := by
  obtain ⟨h1, _⟩ := mem_ready.1 h
  have hlt := getD_lt h1
  refine ⟨hlt, fun h2 => ?_⟩
  unfold Up at h2
  simp [hlt] at h1 h2
  rw [h1] at h2; cases h2
theorem closed_set {T : Array Bool} {i : Nat} (hc : ClosedP ops (Up T)) (hi : i ∈ Region.ready .any ops T) : ClosedP ops (Up (T.setIfInBounds i true)) := by
  obtain ⟨hlt, _⟩ := ready_not hi
  intro j o hj ho e he hb
  rcases (up_set hlt).1 hj with rfl | hj
  · obtain ⟨_, o', ho', h3⟩ := mem_ready.1 hi
    rw [ho] at ho'
    cases ho'
    exact up_set' (h3 e he hb)
  · exact up_set' (hc j o hj ho e he hb)
theorem mayPend_less {T : Array Bool} {i p : Nat} (hc : ClosedP ops (Up T)) (hi : i < T.size) (h : MayPend ops sil (T.setIfInBounds i true) p) : MayPend ops sil T p := by
  obtain ⟨L, h1, h2, h3, h4⟩ := h
  exact ⟨fun j => L j ∧ Up T j, fun j o hj ho e he hb => ⟨h1 j o hj.1 ho e he hb, hc j o hj.2 ho e he hb⟩, fun j hj => hj.2, fun hp => h3 hp.1, fun j hj hs => ⟨h4 j (up_set' hj) hs, hj⟩⟩

/-- whatever order is picked; behind each operation the facts of those that may still be to come hold -/
def DW (P : Program) (ops : Array Oper) (Q : Exit → Act → World → Prop) (sil : Nat → Bool) : Nat → Array Bool → List (Nat × (World → Prop)) → Act → World → Prop
  | 0, T, _, a, w => Region.ready .any ops T = [] ∧ Q .normal a w
  | n + 1, T, C, a, w => (Region.ready .any ops T = [] → Q .normal a w) ∧
    ∀ j ∈ Region.ready .any ops T, wpOp P ops Q j (fun a' w' => (∀ c ∈ C, MayPend ops sil (T.setIfInBounds j true) c.1 → c.2 w') ∧ DW P ops Q sil n (T.setIfInBounds j true) C a' w') a w
theorem DW.any : ∀ {n : Nat} {T : Array Bool} {C : List (Nat × (World → Prop))} {a : Act} {w : World}, DW P ops Q sil n T C a w → wpAny P .any ops Q n T a w
  | 0, _, _, _, _, h => h
  | _ + 1, _, _, _, _, h => ⟨h.1, fun j hj => wpOp_mono (fun _ _ hk => hk.2.any) (h.2 j hj)⟩
theorem DW.less : ∀ {n : Nat} {T : Array Bool} {C C' : List (Nat × (World → Prop))} {a : Act} {w : World}, (∀ c ∈ C', c ∈ C) → DW P ops Q sil n T C a w → DW P ops Q sil n T C' a w
  | 0, _, _, _, _, _, _, h => h
  | _ + 1, _, _, _, _, _, hs, h => ⟨h.1, fun j hj => wpOp_mono (fun _ _ hk => ⟨fun c hc => hk.1 c (hs c hc), hk.2.less hs⟩) (h.2 j hj)⟩

/-- a silent operation, or a load, may be taken first -/
theorem DW.first {i : Nat} {oi : Oper} {v : Value} {S : World → Prop} (hi : ops[i]? = some oi) (hsel : ∀ (j : Nat) (o : Oper) cs b, ops[j]? = some o → o.op ≠ .select cs b)
    (hQ : ∀ c a w, ¬ Q (.panic c) a w) (hsi : sil i = true) :
    ∀ (n : Nat) (T : Array Bool) (C : List (Nat × (World → Prop))) (a : Act) (w : World), ClosedP ops (Up T) →
      (∀ j oj, ops[j]? = some oj → j ≠ i → T.getD j true = false → (∀ e ∈ oj.after, Region.binds .any e = true → e.on ≠ i) → oi.apart ops oj = true) →
      i ∈ Region.ready .any ops T → YieldsIf P ops S oi v a → S w → (∀ c ∈ C, MayPend ops sil T c.1 → c.2 w) →
      DW P ops Q sil n (T.setIfInBounds i true) ((i, S) :: C) (a.put oi.dst v) w → DW P ops Q sil (n + 1) T C a w := by
  intro n
  induction n with
  | zero =>
    intro T C a w hcl _ hr hy hS hC H
    refine ⟨fun h => (by rw [h] at hr; cases hr), fun j hj => ?_⟩
    by_cases hji : j = i
    · subst hji; exact hy.wpOp hi hS ⟨fun c hc hm => hC c hc (mayPend_less hcl (ready_not hr).1 hm), H⟩
    · have := ready_mono hj hji
      rw [H.1] at this
      cases this
  | succ n ih =>
    intro T C a w hcl hfree hr hy hS hC H
    refine ⟨fun h => (by rw [h] at hr; cases hr), fun j hj => ?_⟩
    by_cases hji : j = i
    · subst hji
      exact hy.wpOp hi hS ⟨fun c hc hm => hC c hc (mayPend_less hcl (ready_not hr).1 hm), H.less fun c hc => List.mem_cons_of_mem _ hc⟩
    · have h1 := H.2 j (ready_mono hj hji)
      obtain ⟨hjun, oj, hoj, hall⟩ := mem_ready.1 hj
      have hnot : ∀ e ∈ oj.after, Region.binds .any e = true → e.on ≠ i := fun e he hb heq => by
        have h1 := hall e he hb
        rw [heq] at h1
        exact (ready_not hr).2 h1
      have h2 := wpOp_putIf hoj (hfree j oj hoj hji hjun hnot) (fun cs b => hsel i oi cs b hi) (fun cs b => hsel j oj cs b hoj) (fun c a w h => absurd h (hQ c _ _)) hy h1
      have hfree' : ∀ k ok, ops[k]? = some ok → k ≠ i → (T.setIfInBounds j true).getD k true = false →
          (∀ e ∈ ok.after, Region.binds .any e = true → e.on ≠ i) → oi.apart ops ok = true := fun k ok hk hki hun hno => by
        refine hfree k ok hk hki ?_ hno
        by_cases hjk : j = k
        · subst hjk; exact hjun
        · rw [getD_set_ne true hjk] at hun; exact hun
      have hjlt := (ready_not hj).1
      have hilt := (ready_not hr).1
      have hcl' := closed_set hcl hj
      have hri' := ready_mono hr (Ne.symm hji)
      -- T with j is closed and has not i
      have hpi : MayPend ops sil ((T.setIfInBounds i true).setIfInBounds j true) i := by
        refine ⟨Up (T.setIfInBounds j true), hcl', fun k hk => ?_, (ready_not hri').2, fun k hk hs => ?_⟩
        · rw [Array.setIfInBounds_comm _ _ (Ne.symm hji)]; exact up_set' hk
        · rw [Array.setIfInBounds_comm _ _ (Ne.symm hji)] at hk
          rcases (up_set (by simpa using hilt)).1 hk with rfl | hk
          · rw [hsi] at hs; cases hs
          · exact hk
      have hmore : ∀ p, MayPend ops sil (T.setIfInBounds j true) p → MayPend ops sil ((T.setIfInBounds i true).setIfInBounds j true) p := fun p ⟨L, l1, l2, l3, l4⟩ =>
        ⟨L, l1, fun k hk => (by rw [Array.setIfInBounds_comm _ _ (Ne.symm hji)]; exact up_set' (l2 k hk)), l3, fun k hk hs => (by
          rw [Array.setIfInBounds_comm _ _ (Ne.symm hji)] at hk
          rcases (up_set (by simpa using hilt)).1 hk with rfl | hk
          · rw [hsi] at hs; cases hs
          · exact l4 k hk hs)⟩
      refine wpOp_mono (fun a' w' h3 => ?_) h2
      obtain ⟨hy', hCC, hD⟩ := h3
      have hC' : ∀ c ∈ C, MayPend ops sil (T.setIfInBounds j true) c.1 → c.2 w' := fun c hc hm => hCC c (List.mem_cons_of_mem _ hc) (hmore _ hm)
      refine ⟨hC', ih (T.setIfInBounds j true) C a' w' hcl' hfree' hri' hy' (hCC (i, S) List.mem_cons_self hpi) hC' ?_⟩
      rw [Array.setIfInBounds_comm _ _ hji]
      exact hD
end

end Sx
end Go.Proofs.YtfdggebddcoeeaaGreatDoor
end

/-
  Equal states; regions that draw their order.
-/
noncomputable section
namespace Go.Proofs.YtfdggebddcoeeaaGreatDoor
namespace Sx
open Go Go.RowKit

theorem cond_true' {a b : Bool} (h : cond a b false = true) : a = true ∧ b = true := by cases a <;> simp_all
theorem nbeq {a b : Nat} (h : Nat.beq a b = true) : a = b := Nat.eq_of_beq_eq_true h
mutual
theorem SV.beq_eq : ∀ {a b : SV}, SV.beq a b = true → a = b
  | .bool a, b, h => by cases b <;> simp only [SV.beq] at h <;> first | (cases h; done) | rw [SE.beq_eq h]
  | .int k a, b, h => by
    cases b <;> simp only [SV.beq] at h <;> try (cases h; done)
    obtain ⟨h1, h2⟩ := cond_true' h
    rw [of_decide_eq_true h1, SE.beq_eq h2]
  | .str a, b, h => by cases b <;> simp only [SV.beq] at h <;> first | (cases h; done) | rw [eqB_ok h]
  | .ptr p o, b, h => by
    cases b <;> simp only [SV.beq] at h <;> try (cases h; done)
    obtain ⟨h1, h2⟩ := cond_true' h
    rw [nbeq h1, nbeq h2]
  | .gptr p o, b, h => by
    cases b <;> simp only [SV.beq] at h <;> try (cases h; done)
    obtain ⟨h1, h2⟩ := cond_true' h
    rw [nbeq h1, nbeq h2]
  | .nilp, b, h => by cases b <;> simp only [SV.beq] at h <;> first | (cases h; done) | rfl
  | .sl p o n c, b, h => by
    cases b <;> simp only [SV.beq] at h <;> try (cases h; done)
    obtain ⟨h1, h2⟩ := cond_true' h
    obtain ⟨h3, h4⟩ := cond_true' h2
    obtain ⟨h5, h6⟩ := cond_true' h4
    rw [nbeq h1, nbeq h3, nbeq h5, capEq_ok h6]
  | .nils, b, h => by cases b <;> simp only [SV.beq] at h <;> first | (cases h; done) | rfl
  | .func f a, b, h => by
    cases b <;> simp only [SV.beq] at h <;> try (cases h; done)
    obtain ⟨h1, h2⟩ := cond_true' h
    rw [nbeq h1, beqL_eq h2]
  | .nilf, b, h => by cases b <;> simp only [SV.beq] at h <;> first | (cases h; done) | rfl
  | .agg a, b, h => by
    cases b <;> simp only [SV.beq] at h <;> try (cases h; done)
    rw [beqL_eq h]
  | .tup a, b, h => by
    cases b <;> simp only [SV.beq] at h <;> try (cases h; done)
    rw [beqL_eq h]
theorem beqL_eq : ∀ {a b : List SV}, beqL a b = true → a = b
  | [], b, h => by cases b <;> simp only [beqL] at h <;> first | (cases h; done) | rfl
  | x :: a, b, h => by
    cases b <;> simp only [beqL] at h <;> try (cases h; done)
    obtain ⟨h1, h2⟩ := cond_true' h
    rw [SV.beq_eq h1, beqL_eq h2]
end
theorem beqOV_eq {a b : Option SV} (h : beqOV a b = true) : a = b := by
  cases a <;> cases b <;> simp only [beqOV] at h <;> first | (cases h; done) | rfl | rw [SV.beq_eq h]
theorem beqOB_eq {a b : Option SBlk} (h : beqOB a b = true) : a = b := by
  cases a with
  | none => cases b <;> simp only [beqOB] at h <;> first | (cases h; done) | rfl
  | some a =>
    obtain ⟨t, x, e, f⟩ := a
    cases b with
    | none => simp only [beqOB] at h; cases h
    | some b =>
      obtain ⟨u, y, g, i⟩ := b
      simp only [beqOB] at h
      obtain ⟨h1, h2⟩ := cond_true' h
      obtain ⟨h3, h4⟩ := cond_true' h2
      obtain ⟨h5, h6⟩ := cond_true' h4
      rw [nbeq h1, beqL_eq h3, eq_of_beq h5, eq_of_beq h6]
theorem beqTV_eq : ∀ {a b : Tr SV}, beqTV a b = true → a = b
  | .lf, b, h => by cases b <;> simp only [beqTV] at h <;> first | (cases h; done) | rfl
  | .nd l v r, b, h => by
    cases b <;> simp only [beqTV] at h <;> try (cases h; done)
    obtain ⟨h1, h2⟩ := cond_true' h
    obtain ⟨h3, h4⟩ := cond_true' h2
    rw [beqOV_eq h1, beqTV_eq h3, beqTV_eq h4]
theorem beqTB_eq : ∀ {a b : Tr SBlk}, beqTB a b = true → a = b
  | .lf, b, h => by cases b <;> simp only [beqTB] at h <;> first | (cases h; done) | rfl
  | .nd l v r, b, h => by
    cases b <;> simp only [beqTB] at h <;> try (cases h; done)
    obtain ⟨h1, h2⟩ := cond_true' h
    obtain ⟨h3, h4⟩ := cond_true' h2
    rw [beqOB_eq h1, beqTB_eq h3, beqTB_eq h4]
theorem beqEx_eq {a b : Ex} (h : beqEx a b = true) : a = b := by
  cases a <;> cases b <;> simp only [beqEx] at h <;> first | (cases h; done) | rfl | rw [nbeq h]
theorem Out.beq_eq : ∀ {a b : Out}, a.beq b = true → a = b
  | .done e tm hp nx, b, h => by
    cases b <;> simp only [Out.beq] at h <;> try (cases h; done)
    obtain ⟨h1, h2⟩ := cond_true' h
    obtain ⟨h3, h4⟩ := cond_true' h2
    obtain ⟨h5, h6⟩ := cond_true' h4
    rw [beqEx_eq h1, beqTV_eq h3, beqTB_eq h5, nbeq h6]
  | .split c t f, b, h => by
    cases b <;> simp only [Out.beq] at h <;> try (cases h; done)
    obtain ⟨h1, h2⟩ := cond_true' h
    obtain ⟨h3, h4⟩ := cond_true' h2
    rw [SE.beq_eq h1, Out.beq_eq h3, Out.beq_eq h4]
variable {E : Env} {P : Program} {G : Gl} {F : Fr}
theorem eqO_some {a b : Option Out} {o : Out} (h : eqO a b = some o) : ∃ x y, a = some x ∧ b = some y ∧ (∀ e ac w, Post E P F x e ac w → Post E P F o e ac w) ∧ (∀ e ac w, Post E P F y e ac w → Post E P F o e ac w) := by
  cases a with
  | none => cases h
  | some a =>
    cases b with
    | none => cases h
    | some b =>
      simp only [eqO] at h
      cases h1 : a.beq b <;> rw [h1] at h
      · simp only [Bool.cond_false] at h
        cases h2 : (mgO (.lit 1) a b).beq (mgO (.lit 0) a b) <;> rw [h2] at h <;> cases h
        refine ⟨a, b, rfl, rfl, fun e ac w hp => mgO_left (by simp [SE.den]) hp, fun e ac w hp => ?_⟩
        rw [Out.beq_eq h2]
        exact mgO_right (by simp [SE.den]) hp
      · have h' : a = o := Option.some.inj h
        refine ⟨a, b, rfl, rfl, fun _ _ _ hp => by rw [← h']; exact hp, fun _ _ _ hp => ?_⟩
        rw [← h', Out.beq_eq h1]
        exact hp

/-! what the schedule's checks say -/
theorem kept_mem (ops : Array Oper) (T : Array Bool) (i : Nat) (L : Nat → Prop) (hc : ClosedP ops L) (hT : ∀ j, L j → Up T j) (hi : ¬ L i) (n : Nat) (hn : n ≤ ops.size) : ∀ m k acc, k + m = n → (∀ j, j < k → L j → j ∈ acc) → ∀ j, j < n → L j → j ∈ kept ops T i (List.range' k m) acc := by
  intro m
  induction m with
  | zero => intro k acc hk h j hj hL; exact h j (by omega) hL
  | succ m ih =>
    intro k acc hk h j hj hL
    simp only [List.range'_succ, kept]
    refine ih (k + 1) _ (by omega) (fun j' hj' hL' => ?_) j hj hL
    by_cases e : j' = k
    · subst e
      have h1 : Nat.beq j' i = false := by
        cases hb : Nat.beq j' i
        · rfl
        · exact absurd (nbeq hb ▸ hL') hi
      have h2 : T.getD j' false = true := hT j' hL'
      have hlt : j' < ops.size := by omega
      have h3 : depsIn ops acc j' = true := by
        unfold depsIn
        rw [Array.getElem?_eq_getElem hlt]
        simp only [Array.all_eq_true_iff_forall_mem]
        intro e he
        cases hb : Region.binds .any e
        · rfl
        · have hLe := hc j' _ hL' (Array.getElem?_eq_getElem hlt) e he hb
          by_cases hle : j' ≤ e.on
          · simp [Nat.ble_eq_true_of_le hle]
          · have := h e.on (by omega) hLe
            simp [this]
      rw [h1, h2, h3]
      exact List.mem_cons_self
    · have : j' ∈ acc := h j' (by omega) hL'
      cases Nat.beq k i
      · cases T.getD k false
        · exact this
        · cases depsIn ops acc k
          · exact this
          · exact List.mem_cons_of_mem _ this
      · exact this
theorem pendB_of {ops : Array Oper} {T : Array Bool} {p : Nat} (h : MayPend ops (fun j => isSil (cls P G (opAt ops j))) T p) : pendB P G ops T p = true := by
  obtain ⟨L, h1, h2, h3, h4⟩ := h
  unfold pendB
  simp only [List.all_eq_true, List.mem_range]
  intro j hj
  cases hs : isSil (cls P G (opAt ops j))
  · cases hT : T.getD j false
    · rfl
    · have hL := h4 j hT hs
      have := kept_mem ops T p L h1 h2 h3 ops.size (Nat.le_refl _) ops.size 0 [] (by omega) (fun j hj => absurd hj (by omega)) j hj hL
      rw [← List.range_eq_range'] at this
      simp [this]
  · cases T.getD j false <;> simp
theorem findTake_ok {ops : Array Oper} {T : Array Bool} : ∀ {l : List Nat} {i : Nat}, findTake P G ops T l = some i → i ∈ l ∧ isSil (cls P G (opAt ops i)) = true ∧ Region.free .any ops T i = true := by
  intro l
  induction l with
  | nil => intro i h; cases h
  | cons x l ih =>
    intro i h
    simp only [findTake] at h
    cases h1 : (isSil (cls P G (opAt ops x)) && Region.free .any ops T x) <;> rw [h1] at h
    · obtain ⟨a, b⟩ := ih h
      exact ⟨List.mem_cons_of_mem _ a, b⟩
    · cases h
      exact ⟨List.mem_cons_self, (Bool.and_eq_true _ _).mp h1⟩

end Sx
end Go.Proofs.YtfdggebddcoeeaaGreatDoor
end

/-
  Regions that draw their order, proved.
-/
noncomputable section
namespace Go.Proofs.YtfdggebddcoeeaaGreatDoor
namespace Sx
open Go Go.RowKit
variable {E : Env} {P : Program} {G : Gl} {F : Fr}

theorem post_noPanic : ∀ {out : Out} {c : List PanicEntry} {a : Act} {w : World}, ¬ Post E P F out (.panic c) a w := by
  intro out
  induction out with
  | done ex tm hp nx => intro c a w h; obtain ⟨h, _⟩ := h; cases ex <;> cases h
  | split c t f iht ihf =>
    intro ch a w h
    by_cases hc : c.den E = 0
    · exact ihf (h.2 hc)
    · exact iht (h.1 hc)
theorem isSil_ok {c : Cls} (h : isSil c = true) : ∃ f, c = .sil f := by cases c <;> simp [isSil] at h; exact ⟨_, rfl⟩

/-- a silent operation taken first -/
theorem take_ok (hg : GOk E G F.w0) {cf : CF} {ops : Array Oper} {o : Oper} (hd : ∀ t, o.dst = some t → t < F.n) (hsil : isSil (cls P G o.op) = true) {ih : K} {tm : Tr SV} {hp : Tr SBlk} {nx : Nat} {out : Out}
    (h : runO P G cf F.lo ops o ih tm hp nx = some out) {loc : Nat → Nat × Nat} {a : Act} {w : World} (s : St E P F loc tm hp nx a w) :
    ∃ (v : SV) (tm' : Tr SV) (out' : Out), ih tm' hp nx = some out' ∧ St E P F loc tm' hp nx (a.put o.dst (v.den E loc)) w ∧ (∀ e a w, Post E P F out' e a w → Post E P F out e a w) ∧
      YieldsIf P ops (fun w' => isLoad o.op = true → Below w.heap.size w w') o (v.den E loc) a := by
  obtain ⟨f, hf⟩ := isSil_ok hsil
  have hrun : ∀ {tm out}, runC cf F.lo (cls P G o.op) o.dst ih tm hp nx = some out → St E P F loc tm hp nx a w → Region.wanted o (yielded ops a.tmps) = true →
      ∃ (v : SV) (tm' : Tr SV), ih tm' hp nx = some out ∧ St E P F loc tm' hp nx (a.put o.dst (v.den E loc)) w ∧ YieldsIf P ops (fun w' => isLoad o.op = true → Below w.heap.size w w') o (v.den E loc) a := by
    intro tm out h s hw
    rw [hf] at h
    simp only [runC] at h
    cases hv : f tm hp with
    | none => rw [hv] at h; cases h
    | some v =>
      rw [hv] at h
      simp only [silK] at h
      cases hl : isLoad o.op
      · have hN := fun w' => silN_ok E loc P G hg.1 hf hl s.tr hv s.hr w'
        exact ⟨v, _, h, s.sil hd (hN w).2, .inl ⟨hw, fun w' _ => (hN w').1⟩⟩
      · have hL := silL_ok E loc P G hf hl s.tr hv s.hr (s.gok hg)
        refine ⟨v, _, h, s.sil hd hL.2, .inl ⟨hw, fun w' hS => ?_⟩⟩
        have hb := hS rfl
        exact (silL_ok E loc P G hf hl s.tr hv (hrel_below s.hr hb) (gok_below E G (s.gok hg) hb)).1
  have hskip : ∀ {tm out}, ih (putO o.dst (.tup []) tm) hp nx = some out → St E P F loc tm hp nx a w → Region.wanted o (yielded ops a.tmps) = false →
      ∃ (v : SV) (tm' : Tr SV), ih tm' hp nx = some out ∧ St E P F loc tm' hp nx (a.put o.dst (v.den E loc)) w ∧ YieldsIf P ops (fun w' => isLoad o.op = true → Below w.heap.size w w') o (v.den E loc) a := by
    intro tm out h s hw
    exact ⟨.tup [], _, h, s.sil hd (v := .tup []) trivial, .inr ⟨hw, rfl⟩⟩
  have lift : ∀ {out'}, (∀ e a w, Post E P F out' e a w → Post E P F out e a w) → (∃ (v : SV) (tm' : Tr SV), ih tm' hp nx = some out' ∧ St E P F loc tm' hp nx (a.put o.dst (v.den E loc)) w ∧ YieldsIf P ops (fun w' => isLoad o.op = true → Below w.heap.size w w') o (v.den E loc) a) →
      ∃ (v : SV) (tm' : Tr SV) (out' : Out), ih tm' hp nx = some out' ∧ St E P F loc tm' hp nx (a.put o.dst (v.den E loc)) w ∧ (∀ e a w, Post E P F out' e a w → Post E P F out e a w) ∧
      YieldsIf P ops (fun w' => isLoad o.op = true → Below w.heap.size w w') o (v.den E loc) a := fun hp ⟨v, tm', h1, h2, h3⟩ => ⟨v, tm', _, h1, h2, hp, h3⟩
  unfold runO at h
  cases hgu : o.guard with
  | none =>
    rw [hgu] at h
    exact lift (fun _ _ _ h => h) (hrun h s (by simp [Region.wanted, hgu]))
  | some gw =>
    obtain ⟨j, want⟩ := gw
    rw [hgu] at h
    simp only [runG] at h
    cases hdst : guardDst ops j with
    | none => rw [hdst] at h; cases h
    | some g =>
      rw [hdst] at h
      simp only at h
      cases hv : tm.get g with
      | none => rw [hv] at h; cases h
      | some v =>
        rw [hv] at h
        have htup : ∀ l, v = .tup l → ∃ (v : SV) (tm' : Tr SV) (out' : Out), ih tm' hp nx = some out' ∧ St E P F loc tm' hp nx (a.put o.dst (v.den E loc)) w ∧ (∀ e a w, Post E P F out' e a w → Post E P F out e a w) ∧
            YieldsIf P ops (fun w' => isLoad o.op = true → Below w.heap.size w w') o (v.den E loc) a := fun l hl => by
          subst hl
          simp only at h
          cases l with
          | cons _ _ => cases h
          | nil =>
            have hy := yielded_none hdst (s.tr g _ hv).1
            exact lift (fun _ _ _ h => h) (hskip h s (by simp [Region.wanted, hgu, hy]))
        cases v <;> (try exact htup _ rfl) <;> simp only at h <;> try (cases h; done)
        rename_i e
        obtain ⟨t1, t2⟩ := s.tr g _ hv
        have hy := yielded_ok hdst t1
        have hw : Region.wanted o (yielded ops a.tmps) = (decide (e.den E ≠ 0) == want) := by
          simp only [Region.wanted, hgu, hy]
          cases decide (e.den E ≠ 0) <;> cases want <;> rfl
        have gen : (cond want
            (mgOO e (runC cf F.lo (cls P G o.op) o.dst ih (tm.set g (.bool (.lit 1))) hp nx) (ih (putO o.dst (.tup []) (tm.set g (.bool (.lit 0)))) hp nx))
            (mgOO e (ih (putO o.dst (.tup []) (tm.set g (.bool (.lit 1)))) hp nx) (runC cf F.lo (cls P G o.op) o.dst ih (tm.set g (.bool (.lit 0))) hp nx))) = some out →
            ∃ (v : SV) (tm' : Tr SV) (out' : Out), ih tm' hp nx = some out' ∧ St E P F loc tm' hp nx (a.put o.dst (v.den E loc)) w ∧ (∀ e a w, Post E P F out' e a w → Post E P F out e a w) ∧
              YieldsIf P ops (fun w' => isLoad o.op = true → Below w.heap.size w w') o (v.den E loc) a := by
          intro h
          have s1 : e.den E ≠ 0 → St E P F loc (tm.set g (.bool (.lit 1))) hp nx a w := fun hc => s.same hv (by simp [SV.den, SE.den, hc]) trivial
          have s0 : e.den E = 0 → St E P F loc (tm.set g (.bool (.lit 0))) hp nx a w := fun hc => s.same hv (by simp [SV.den, SE.den, hc]) trivial
          cases want
          · simp only [Bool.cond_false] at h
            obtain ⟨o1, o2, h1, h2, rfl⟩ := mgOO_some h
            by_cases hc : e.den E = 0
            · exact lift (fun e a w hp => mgO_right hc hp) (hrun h2 (s0 hc) (by rw [hw]; simp [hc]))
            · exact lift (fun e a w hp => mgO_left hc hp) (hskip h1 (s1 hc) (by rw [hw]; simp [hc]))
          · simp only [Bool.cond_true] at h
            obtain ⟨o1, o2, h1, h2, rfl⟩ := mgOO_some h
            by_cases hc : e.den E = 0
            · exact lift (fun e a w hp => mgO_right hc hp) (hskip h2 (s0 hc) (by rw [hw]; simp [hc]))
            · exact lift (fun e a w hp => mgO_left hc hp) (hrun h1 (s1 hc) (by rw [hw]; simp [hc]))
        cases e <;> try exact gen h
        rename_i n
        simp only at h
        cases h0 : int0 n
        · have hn : n ≠ 0 := fun e => by rw [(int0_iff n).2 e] at h0; cases h0
          rw [h0] at h
          cases want
          · exact lift (fun _ _ _ h => h) (hskip h s (by rw [hw]; simp [SE.den, hn]))
          · exact lift (fun _ _ _ h => h) (hrun h s (by rw [hw]; simp [SE.den, hn]))
        · have hn : n = 0 := (int0_iff n).1 h0
          rw [h0] at h
          cases want
          · exact lift (fun _ _ _ h => h) (hrun h s (by rw [hw]; simp [SE.den, hn]))
          · exact lift (fun _ _ _ h => h) (hskip h s (by rw [hw]; simp [SE.den, hn]))

variable (P G) in
abbrev silF (ops : Array Oper) : Nat → Bool := fun j => isSil (cls P G (opAt ops j))
variable (P G) in
/-- the facts of those taken first -/
def COk (ops : Array Oper) (C : List (Nat × (World → Prop))) (pd : List Nat) (w : World) (T : Array Bool) : Prop :=
  ∀ c ∈ C, ∃ (l : Bool) (wp : World), c.2 = (fun w' => l = true → Below wp.heap.size wp w') ∧ (l = true → c.1 ∈ pd) ∧ (l = true → Below wp.heap.size wp w ∨ ¬ MayPend ops (silF P G ops) T c.1)
theorem opAt_eq {ops : Array Oper} {i : Nat} {o : Oper} (h : ops[i]? = some o) : opAt ops i = o.op := by simp [opAt, h]
/-- what the theorem says at one schedule -/
def Good (E : Env) (P : Program) (G : Gl) (F : Fr) (cf : CF) (ops : Array Oper) (n : Nat) (T : Array Bool) (pd : List Nat) (t : Sch) : Prop :=
  ∀ tm hp nx out, runS P G cf F.lo ops t tm hp nx = some out → ∀ loc a w, St E P F loc tm hp nx a w → ∀ C, COk P G ops C pd w T → ∀ Q : Exit → Act → World → Prop, (∀ c a w, ¬ Q (.panic c) a w) → (∀ e a w, Post E P F out e a w → Q e a w) →
    DW P ops Q (silF P G ops) n T C a w
theorem one_ok {cf : CF} (hcf : CFOk E P G cf) (hg : GOk E G F.w0) {ops : Array Oper} (hd : dstIn F.n ops.toList = true) {n : Nat} {T : Array Bool} {pd : List Nat} {t : Sch} (hcl : ClosedP ops (Up T)) {i : Nat} (hi : i ∈ Region.ready .any ops T)
    (ih : Good E P G F cf ops n (T.setIfInBounds i true) pd t) (hwr : isWrt (cls P G (opAt ops i)) = true → ∀ p ∈ pd, ¬ MayPend ops (silF P G ops) (T.setIfInBounds i true) p)
    {tm : Tr SV} {hp : Tr SBlk} {nx : Nat} {out : Out} (h : runI P G cf F.lo ops i (runS P G cf F.lo ops t) tm hp nx = some out) {loc : Nat → Nat × Nat} {a : Act} {w : World} (s : St E P F loc tm hp nx a w)
    {C : List (Nat × (World → Prop))} (hC : COk P G ops C pd w T) {Q : Exit → Act → World → Prop} (hQp : ∀ c a w, ¬ Q (.panic c) a w) (hQ : ∀ e a w, Post E P F out e a w → Q e a w) :
    wpOp P ops Q i (fun a' w' => (∀ c ∈ C, MayPend ops (silF P G ops) (T.setIfInBounds i true) c.1 → c.2 w') ∧ DW P ops Q (silF P G ops) n (T.setIfInBounds i true) C a' w') a w := by
  obtain ⟨_, o, ho, _⟩ := mem_ready.1 hi
  unfold runI at h
  rw [ho] at h
  simp only at h
  have hdo := dstIn_ok hd o (Array.mem_toList_iff.2 (Array.mem_of_getElem? ho))
  have key := runO_ok (X := fun Q' a' w' => (∀ c a w, ¬ Q' (.panic c) a w) → ((∀ c ∈ C, MayPend ops (silF P G ops) (T.setIfInBounds i true) c.1 → c.2 w') ∧ DW P ops Q' (silF P G ops) n (T.setIfInBounds i true) C a' w')) hcf hg hdo
    (w := w) (ih := runS P G cf F.lo ops t) (fun tm' hp' nx' out' h' loc' a' w' s' hR Q' hQ' hp => by
      have fact : ∀ c ∈ C, MayPend ops (silF P G ops) (T.setIfInBounds i true) c.1 → ∀ (l : Bool) (wp : World), (l = true → c.1 ∈ pd) → (l = true → Below wp.heap.size wp w ∨ ¬ MayPend ops (silF P G ops) T c.1) → l = true → Below wp.heap.size wp w' := by
        intro c hc hm l wp h2 h3 hl
        rcases h3 hl with h4 | h4
        · cases hw : isWrt (cls P G o.op)
          · exact h4.trans ((hR hw).mono h4.size)
          · exact absurd hm (hwr (by rw [opAt_eq ho]; exact hw) c.1 (h2 hl))
        · exact absurd (mayPend_less hcl (ready_not hi).1 hm) h4
      refine ⟨fun c hc hm => ?_, ih tm' hp' nx' out' h' loc' a' w' s' C (fun c hc => ?_) Q' hp hQ'⟩
      · obtain ⟨l, wp, h1, h2, h3⟩ := hC c hc
        rw [h1]
        exact fact c hc hm l wp h2 h3
      · obtain ⟨l, wp, h1, h2, h3⟩ := hC c hc
        refine ⟨l, wp, h1, h2, fun hl => ?_⟩
        by_cases hm : MayPend ops (silF P G ops) (T.setIfInBounds i true) c.1
        · exact .inl (fact c hc hm l wp h2 h3 hl)
        · exact .inr hm) h s hQ
  unfold wpOp
  rw [ho]
  simp only
  split
  · rename_i hw
    rw [if_pos hw] at key
    exact .inl (Oper.wp_mono (fun a w hk => hk hQp) key)
  · rename_i hw
    rw [if_neg hw] at key
    exact key hQp

theorem sch_ok {cf : CF} (hcf : CFOk E P G cf) (hg : GOk E G F.w0) {ops : Array Oper} (hd : dstIn F.n ops.toList = true) (hns : Region.noSelect ops = true) :
    ∀ (n : Nat) (T : Array Bool) (pd : List Nat) (t : Sch), mkSch P G ops n T pd = some t → ClosedP ops (Up T) → Good E P G F cf ops n T pd t := by
  intro n
  induction n with
  | zero =>
    intro T pd t ht _ tm hp nx out h loc a w s C _ Q _ hQ
    simp only [mkSch] at ht
    split at ht
    · rename_i hr
      cases ht
      cases h
      exact ⟨hr, hQ _ _ _ ⟨rfl, loc, s⟩⟩
    · cases ht
  | succ n ihn =>
    intro T pd t ht hcl tm hp nx out h loc a w s C hC Q hQp hQ
    simp only [mkSch] at ht
    split at ht
    · rename_i hr
      cases ht
      cases h
      exact ⟨fun _ => hQ _ _ _ ⟨rfl, loc, s⟩, fun j hj => by rw [hr] at hj; cases hj⟩
    · rename_i hne
      split at ht
      · rename_i i hfind
        obtain ⟨hi, hsil, hfree⟩ := findTake_ok hfind
        split at ht
        · rename_i t' ht'
          cases ht
          obtain ⟨_, o, ho, _⟩ := mem_ready.1 hi
          simp only [runS, runI, ho] at h
          have hdo := dstIn_ok hd o (Array.mem_toList_iff.2 (Array.mem_of_getElem? ho))
          rw [opAt_eq ho] at hsil ht'
          obtain ⟨v, tm', out', h1, h2, h3, h4⟩ := take_ok hg hdo hsil h s
          have hbel : isLoad o.op = true → Below w.heap.size w w := fun _ => Below.refl _ w
          refine DW.first ho (Region.noSelect_spec hns) hQp (by show isSil (cls P G (opAt ops i)) = true; rw [opAt_eq ho]; exact hsil) n T C a w hcl (Region.free_spec ho hfree) hi h4 hbel (fun c hc hm => ?_) ?_
          · obtain ⟨l, wp, e1, e2, e3⟩ := hC c hc
            rw [e1]
            intro hl
            exact (e3 hl).resolve_right fun hn => hn hm
          · refine ihn _ _ _ ht' (closed_set hcl hi) tm' hp nx out' h1 loc _ w h2 _ (fun c hc => ?_) Q hQp fun e a w hp => hQ e a w (h3 e a w hp)
            rcases List.mem_cons.1 hc with rfl | hc
            · refine ⟨isLoad o.op, w, rfl, fun hl => ?_, fun hl => .inl (Below.refl _ w)⟩
              rw [hl]; exact List.mem_cons_self
            · obtain ⟨l, wp, e1, e2, e3⟩ := hC c hc
              refine ⟨l, wp, e1, fun hl => ?_, fun hl => (e3 hl).imp id fun hn hm => hn (mayPend_less hcl (ready_not hi).1 hm)⟩
              have := e2 hl
              cases isLoad o.op
              · exact this
              · exact List.mem_cons_of_mem _ this
        · cases ht
      · split at ht
        · rename_i i hr
          have hi : i ∈ Region.ready .any ops T := by rw [hr]; exact List.mem_cons_self
          split at ht
          · rename_i t' ht'
            cases hwp : (isWrt (cls P G (opAt ops i)) && pd.any (pendB P G ops (T.setIfInBounds i true))) <;> rw [hwp] at ht <;> try (cases ht; done)
            cases ht
            simp only [runS] at h
            refine ⟨fun h0 => absurd h0 (by rw [hr]; simp), fun j hj => ?_⟩
            rw [hr] at hj
            have hji : j = i := by simpa using hj
            subst hji
            refine one_ok hcf hg hd hcl hi (ihn _ _ _ ht' (closed_set hcl hi)) (fun hw p hp' hm => ?_) h s hC hQp hQ
            rw [hw, Bool.true_and] at hwp
            have hall : ∀ x ∈ pd, ¬ pendB P G ops (T.setIfInBounds j true) x = true := by simpa using hwp
            exact hall p hp' (pendB_of hm)
          · cases ht
        · rename_i i j hr
          have hi : i ∈ Region.ready .any ops T := by rw [hr]; exact List.mem_cons_self
          have hj : j ∈ Region.ready .any ops T := by rw [hr]; exact List.mem_cons_of_mem _ List.mem_cons_self
          split at ht
          · rename_i t' ht'
            split at ht
            · rename_i u' hu'
              cases hwp : (isWrt (cls P G (opAt ops i)) || isWrt (cls P G (opAt ops j))) <;> rw [hwp] at ht <;> try (cases ht; done)
              cases ht
              simp only [runS] at h
              obtain ⟨ox, oy, h1, h2, hx, hy⟩ := eqO_some (E := E) (P := P) (F := F) h
              obtain ⟨w1, w2⟩ := (Bool.or_eq_false_iff).1 hwp
              refine ⟨fun h0 => absurd h0 (by rw [hr]; simp), fun k hk => ?_⟩
              rw [hr] at hk
              rcases List.mem_cons.1 hk with rfl | hk
              · exact one_ok hcf hg hd hcl hi (ihn _ _ _ ht' (closed_set hcl hi)) (fun hw => by rw [w1] at hw; cases hw) h1 s hC hQp (fun e a w hp => hQ e a w (hx e a w hp))
              · have hkj : k = j := by simpa using hk
                subst hkj
                exact one_ok hcf hg hd hcl hj (ihn _ _ _ hu' (closed_set hcl hj)) (fun hw => by rw [w2] at hw; cases hw) h2 s hC hQp (fun e a w hp => hQ e a w (hy e a w hp))
            · cases ht
          · cases ht
        · cases ht
theorem St.drew {loc : Nat → Nat × Nat} {tm : Tr SV} {hp : Tr SBlk} {nx : Nat} {a : Act} {w : World} (s : St E P F loc tm hp nx a w) : St E P F loc tm hp nx a { w with drawn := w.drawn + 1 } :=
  ⟨s.size, s.defs, s.tr, ⟨s.hr.lt, s.hr.rel, s.hr.wf, s.hr.one, s.hr.inj⟩, s.le, s.bel.drew, s.own, s.agree⟩
theorem draw_ok (hm : P.follows .mixedOrders = true) : DrawOk E P G := by
  intro F cf hcf hg id ops hd tm hp nx out h loc a w s Q hQ
  simp only [runR] at h
  cases ht : sch P G ops with
  | none => rw [ht] at h; cases h
  | some t =>
    rw [ht] at h
    simp only at h
    unfold sch at ht
    cases hns : Region.noSelect ops <;> rw [hns] at ht <;> try (cases ht; done)
    simp only [Bool.cond_true] at ht
    have hcl : ClosedP ops (Up (Array.replicate ops.size false)) := fun j o hj => by
      unfold Up at hj
      simp only [Array.getD_eq_getD_getElem?, Array.getElem?_replicate] at hj
      split at hj <;> cases hj
    refine wp_mono (wp_region_any (Q := Post E P F out) hm ?_) hQ
    exact (sch_ok hcf hg hd hns _ _ _ _ ht hcl tm hp nx out h loc a _ s.drew [] (fun c hc => by cases hc) _ (fun c a w => post_noPanic) (fun _ _ _ h => h)).any

/-- THE EVALUATOR IS SOUND -/
theorem eval_ok (hP : OkP P) (hm : P.follows .mixedOrders = true) {sums : Tr Sm} (hS : SumsOk E P G sums) (n : Nat) : CFOk E P G (call P G sums n) := call_ok hP (draw_ok hm) hS n

#print axioms eval_ok

end Sx
end Go.Proofs.YtfdggebddcoeeaaGreatDoor
end

/-
  The laid package-level variables as the evaluator sees them; a law's call.
-/
noncomputable section
namespace Go.Proofs.YtfdggebddcoeeaaGreatDoor
namespace Sx
open Go Go.RowKit

/-! a laid array -/
def svD : DataW Unit → SV
  | .lit (.int k n) => .int k (.lit n)
  | .lit (.string s) => .str s
  | _ => .nilp
def tabD : DataW Unit → Tr SV
  | .agg l => tmOf (l.map svD) 0 .lf
  | _ => .lf
theorem laid_mem {P : Program} {w : World} : ∀ {laid : List (String × DataW Unit)} {ps : List MemPlace}, DataW.LaidVars P w laid ps → ∀ n d, (n, d) ∈ laid →
    ∃ g t cs fuel p, P.globalNamed n = some g ∧ (P.globals[g]?).map (·.type) = some t ∧ w.var? P n = some cs ∧ DataW.trod (fun _ => ()) P w 0 (fun _ => true) false fuel t cs.toList = some (d, p) := by
  intro laid
  induction laid with
  | nil => intro ps _ n d h; cases h
  | cons x r ih =>
    intro ps h n d hm
    obtain ⟨n', d'⟩ := x
    obtain ⟨g, t, cs, fuel, p, q, h1, h2, h3, h4, h5, _⟩ := h
    rcases List.mem_cons.1 hm with e | hm
    · cases e
      exact ⟨g, t, cs, fuel, p, h1, h2, h3, h4⟩
    · exact ih h5 n d hm
/-- an array of numbers or of texts, laid: its cells -/
theorem laid_cells {E : Env} {P : Program} {w : World} {laid : List (String × DataW Unit)} {ps : List MemPlace} (h : DataW.LaidVars P w laid ps) {n : String} {d : DataW Unit} (hm : (n, d) ∈ laid) {g t e N : Nat}
    (hg : P.globalNamed n = some g) (ht : (P.globals[g]?).map (·.type) = some t) (hu : P.underlying t = some (.array N e)) (hc : P.cellsOf e = 1) (he : P.underlying e = some .string ∨ ∃ k, P.underlying e = some (.int k)) :
    ∀ i v, (tabD d).get i = some v → (∀ loc, w.cell? ⟨g, i, none⟩ = some (v.den E loc)) ∧ v.wf E 0 ∧ oneC v = true := by
  obtain ⟨g', t', cs, fuel, p, h1, h2, h3, h4⟩ := laid_mem h n d hm
  obtain rfl := Option.some.inj (hg.symm.trans h1)
  obtain rfl := Option.some.inj (ht.symm.trans h2)
  obtain ⟨xs, m, _, ex, _, hl, hel⟩ := DataW.trod_array hu h4
  have ed : d = .agg (xs.map (·.1)) := (Prod.mk.inj ex).1
  subst ed
  intro i v hv
  rcases tmOf_get hv with ⟨_, h5⟩ | h5
  · rw [Nat.sub_zero, List.getElem?_map, List.getElem?_map] at h5
    cases hx : xs[i]? with
    | none => rw [hx] at h5; cases h5
    | some x =>
      rw [hx] at h5
      simp only [Option.map_some, Option.some.injEq] at h5
      have hi : i < N := by rw [← hl]; exact (List.getElem?_eq_some_iff.1 hx).1
      have hE := hel i hi
      rw [hc, Nat.mul_one, hx] at hE
      have cell : ∀ u, (cs.toList.drop i).take 1 = [u] → w.cell? ⟨g, i, none⟩ = some u := fun u hu => by
        rw [World.var?_cell hg h3 i]
        have h0 : ((cs.toList.drop i).take 1)[0]? = some u := by rw [hu]; rfl
        simpa using h0
      rcases he with he | ⟨k, he⟩
      · obtain ⟨s, e1, e2, _⟩ := DataW.trod_string he hE
        subst h5
        rw [e2]
        exact ⟨fun loc => by rw [cell _ e1]; simp [svD, SV.den], trivial, rfl⟩
      · obtain ⟨z, e1, e2, e3⟩ := DataW.trod_int he hE
        subst h5
        rw [e2]
        refine ⟨fun loc => by rw [cell _ e1]; simp [svD, SV.den, SE.den], ?_, rfl⟩
        simp [Lit.wf] at e3
        exact e3
  · cases h5

/-- from the evaluator to the law's call -/
theorem calls_of_cx {P : Program} (hP : OkP P) {f : FuncId} {fn : Func} (hf : P.funcs[f]? = some fn) (hb : fn.body.isSome = true) {args : Array Value} {w : World} {R : Value → World → Prop} (h : CX P f args w R) :
    Calls P f args w (fun e w' => match e with | .returned v => R v w' | _ => False) := by
  obtain ⟨c, hc⟩ := Option.isSome_iff_exists.1 hb
  have hok := hP f fn hf
  simp only [okFn, hc, Bool.and_eq_true, Bool.not_eq_true'] at hok
  have hn : (fn.name == "runtime.NumGoroutine") = false := hok.2
  have hpr : (program).run P w = .ok P w := rfl
  have hcall : (callFunc f args).run P w = .ok (.enter f args) w := by
    simp only [callFunc, Sem.run_bind, hpr, Result.andThen_ok, hf, hn, hc, Option.isNone_some, Bool.false_eq_true, if_false, Sem.run_pure]
  unfold CX at h
  rw [hcall] at h
  exact h

end Sx
end Go.Proofs.YtfdggebddcoeeaaGreatDoor
end

/-
  Facts on the program.
-/
noncomputable section
namespace Go.Proofs.YtfdggebddcoeeaaGreatDoor
namespace Sx
open Go Go.RowKit

theorem okAll : Tryz.prog.funcs.all okFn = true := by kernel_rfl
theorem okP : OkP Tryz.prog := fun f fn hf => Array.all_eq_true_iff_forall_mem.1 okAll fn (Array.mem_of_getElem? hf)
theorem mixed : Tryz.prog.follows .mixedOrders = true := by kernel_rfl

end Sx
end Go.Proofs.YtfdggebddcoeeaaGreatDoor
end

/-
  lanes.shaped: a map literal, and a look into it.
-/
set_option maxRecDepth 100000
noncomputable section
namespace Go.Proofs.YtfdggebddcoeeaaGreatDoor
namespace Sx
open Go Go.RowKit

def shapeOf (l : List UInt8) : List (List UInt8 × Nat × Nat) → Nat × Nat
  | [] => (0, 0)
  | (s, r) :: t => cond (eqB s l) r (shapeOf l t)
def shapes : List (List UInt8 × Nat × Nat) := [([105,56,120,49,54],8,0),([105,49,54,120,56],16,0),([105,51,50,120,52],32,0),([105,54,52,120,50],64,0),([102,51,50,120,52],32,1),([102,54,52,120,50],64,1)]
theorem run_insert {P : Program} {w : World} {mty kt et : TypeId} {r clock : Nat} {es : Array MapEntry} {s : ByteArray} {val : Value} (hm : P.underlying mty = some (.map kt et)) (hk : P.underlying kt = some .string)
    (hb : w.heap[r]? = some (.map es clock)) (hf : Instr.findNow .string (.string s) es.toList 0 = some none) :
    (Instr.mapUpdate mty (.map (some r)) (.string s) val).run P w = .ok () { w with heap := w.heap.setIfInBounds r (.map (es.push { key := .string s, val := val, born := clock }) (clock + 1)) } := by
  have hc : (Instr.checkKey false 10000 kt (.string s)).run P w = .ok () w := MapKept.run_checkKey (k := .string s) hk (by simp [MapKept.IsKey]) false 9999
  simp [Instr.mapUpdate, run_underlying hm, MapKept.run_getObj_map hb, hc, MapKept.run_findKey hk hf, MapKept.run_setObj_map _ hb, Result.andThen]
theorem run_look {P : Program} {w : World} {mty kt et : TypeId} {r clock : Nat} {es : Array MapEntry} {s : ByteArray} (hm : P.underlying mty = some (.map kt et)) (hk : P.underlying kt = some .string)
    (hb : w.heap[r]? = some (.map es clock)) {z : Value} (hz : (zeroValue et).run P w = .ok z w) {a : Option (Nat × Value)} (hf : Instr.findNow .string (.string s) es.toList 0 = some a) :
    (Instr.lookup mty (.map (some r)) (.string s) false).run P w = .ok ((a.map (·.2)).getD z) w := by
  have hc : (Instr.checkKey es.isEmpty 10000 kt (.string s)).run P w = .ok () w := MapKept.run_checkKey (k := .string s) hk (by simp [MapKept.IsKey]) _ 9999
  cases a with
  | none => simp [Instr.lookup, run_underlying hm, MapKept.run_getObj_map hb, hc, MapKept.run_findKey hk hf, hz, Result.andThen]
  | some x => obtain ⟨i, v⟩ := x; simp [Instr.lookup, run_underlying hm, MapKept.run_getObj_map hb, hc, MapKept.run_findKey hk hf, Result.andThen]
/-- the literal's entries, the first n -/
def entry (x : List UInt8 × Nat × Nat) (i : Nat) : MapEntry := { key := .string ⟨x.1.toArray⟩, val := .agg #[.int .i64 (x.2.1 : Int), .bool (decide (x.2.2 ≠ 0))], born := i }
theorem find_shape (s : List UInt8) : ∀ (l : List (List UInt8 × Nat × Nat)) (i j : Nat),
    ∃ a, Instr.findNow .string (.string ⟨s.toArray⟩) ((l.zipIdx j).map fun x => entry x.1 x.2) i = some a ∧
      (a.map (·.2)).getD (.agg #[.int .i64 0, .bool false]) = .agg #[.int .i64 ((shapeOf s l).1 : Int), .bool (decide ((shapeOf s l).2 ≠ 0))] := by
  intro l
  induction l with
  | nil => intro i j; exact ⟨none, rfl, rfl⟩
  | cons x l ih =>
    intro i j
    simp only [List.zipIdx_cons, List.map_cons, Instr.findNow, entry, Instr.sameNow]
    by_cases h : s = x.1
    · subst h
      have hb : ((⟨x.1.toArray⟩ : ByteArray) == ⟨x.1.toArray⟩) = true := (MapKept.bytes_beq _ _).2 rfl
      rw [hb]
      refine ⟨_, rfl, ?_⟩
      have : eqB x.1 x.1 = true := by
        have : ∀ l : List UInt8, eqB l l = true := by
          intro l
          induction l with
          | nil => rfl
          | cons a l ih => simp [eqB, Nat.beq_refl, ih]
        exact this _
      simp only [shapeOf, this, Bool.cond_true]
      rfl
    · have hb : ((⟨s.toArray⟩ : ByteArray) == ⟨x.1.toArray⟩) = false := by
        rw [Bool.eq_false_iff]
        intro hb
        have := (MapKept.bytes_beq _ _).1 hb
        simp at this
        exact h this
      rw [hb]
      have : eqB x.1 s = false := by
        cases he : eqB x.1 s
        · rfl
        · exact absurd (eqB_ok he).symm h
      simp only [shapeOf, this, Bool.cond_false]
      exact ih (i + 1) (j + 1)

end Sx
end Go.Proofs.YtfdggebddcoeeaaGreatDoor
end

/-
  lanes.shaped: the call.
-/
set_option maxRecDepth 100000
set_option maxHeartbeats 400000
noncomputable section
namespace Go.Proofs.YtfdggebddcoeeaaGreatDoor
namespace Sx
open Go Go.RowKit

section
variable {P : Program} {ops : Array Oper} {Q : Exit → Act → World → Prop} {a : Act} {w w' : World} {rest : List Oper} {o : Oper}
theorem wpl_val {v : Value} (hg : o.guard = none) (h : (execOp a.eval o).run P w = .ok (.value v) w') (k : wpList P ops Q rest (a.put o.dst v) w') : wpList P ops Q (o :: rest) a w := by
  unfold wpList
  have hw : Region.wanted o (yielded ops a.tmps) = true := by simp [Region.wanted, hg]
  rw [if_pos hw]
  refine .inl ?_
  unfold Oper.wp
  rw [h]
  exact k
theorem wpl_skip (hg : o.guard = none) (h : (execOp a.eval o).run P w = .ok .skip w') (k : wpList P ops Q rest (a.put o.dst undef) w') : wpList P ops Q (o :: rest) a w := by
  unfold wpList
  have hw : Region.wanted o (yielded ops a.tmps) = true := by simp [Region.wanted, hg]
  rw [if_pos hw]
  refine .inl ?_
  unfold Oper.wp
  rw [h]
  exact k
theorem wpl_move {x : Operand} {v : Value} (hg : o.guard = none) (ho : o.op = .move x ∨ o.op = .assign x) (hx : a.eval x = v) (k : wpList P ops Q rest (a.put o.dst v) w) : wpList P ops Q (o :: rest) a w := by
  refine wpl_val hg ?_ k
  unfold execOp
  rcases ho with ho | ho <;> rw [ho] <;> simp [hx]
theorem wpl_build {t : TypeId} {ps : Array (Nat × Operand)} {cs : Array Value} (hg : o.guard = none) (ho : o.op = .build t ps) (hc : P.built t (ps.map fun x => (x.1, a.eval x.2)).toList = some cs) (k : wpList P ops Q rest (a.put o.dst (.agg cs)) w) : wpList P ops Q (o :: rest) a w := by
  refine wpl_val hg ?_ k
  unfold execOp
  rw [ho]
  have := run_build (P := P) w t (ps.map fun x => (x.1, a.eval x.2)) cs hc
  simp only [Sem.run_bind]
  rw [show (ps.map fun x => match x with | (i, x) => (i, a.eval x)) = (ps.map fun x => (x.1, a.eval x.2)) from rfl, this]
  rfl
/-- the map's block holds so many entries -/
def mw (w : World) (g : Nat) (es : Array MapEntry) (c : Nat) : World := { w with heap := w.heap.setIfInBounds g (.map es c) }
theorem mw_heap {g : Nat} (h : g < w.heap.size) (es : Array MapEntry) (c : Nat) : (mw w g es c).heap[g]? = some (.map es c) := by simp [mw, h]
theorem mw_mw (g : Nat) (es es' : Array MapEntry) (c c' : Nat) : ({ mw w g es c with heap := (mw w g es c).heap.setIfInBounds g (.map es' c') } : World) = mw w g es' c' := by
  simp [mw, Array.setIfInBounds_setIfInBounds]
theorem wpl_insert {t kt et : TypeId} {m kk x : Operand} {g c : Nat} {es es' : Array MapEntry} {s : ByteArray} {val : Value} (hm : P.underlying t = some (.map kt et)) (hk : P.underlying kt = some .string)
    (hg : o.guard = none) (ho : o.op = .insert t m kk x) (h1 : a.eval m = .map (some g)) (h2 : a.eval kk = .string s) (h3 : a.eval x = val) (hlt : g < w.heap.size)
    (hf : Instr.findNow .string (.string s) es.toList 0 = some none) (he : es.push { key := .string s, val := val, born := c } = es') (k : wpList P ops Q rest (a.put o.dst undef) (mw w g es' (c + 1))) :
    wpList P ops Q (o :: rest) a (mw w g es c) := by
  subst he
  refine wpl_skip hg ?_ k
  unfold execOp
  rw [ho]
  have := run_insert (P := P) (w := mw w g es c) (mty := t) (val := val) hm hk (mw_heap hlt es c) hf
  simp only [Sem.run_bind, h1, h2, h3, this, Result.andThen_ok, Sem.run_pure, mw_mw]
theorem wpl_look {t kt et : TypeId} {m kk : Operand} {g c : Nat} {es : Array MapEntry} {s : ByteArray} {z v : Value} {a' : Option (Nat × Value)} (hm : P.underlying t = some (.map kt et)) (hk : P.underlying kt = some .string)
    (hg : o.guard = none) (ho : o.op = .lookup t m kk false) (h1 : a.eval m = .map (some g)) (h2 : a.eval kk = .string s) (hlt : g < w.heap.size) (hz : ∀ w', (zeroValue et).run P w' = .ok z w')
    (hf : Instr.findNow .string (.string s) es.toList 0 = some a') (he : (a'.map (·.2)).getD z = v) (k : wpList P ops Q rest (a.put o.dst v) (mw w g es c)) :
    wpList P ops Q (o :: rest) a (mw w g es c) := by
  subst he
  refine wpl_val hg ?_ k
  unfold execOp
  rw [ho]
  have := run_look (P := P) (w := mw w g es c) (mty := t) hm hk (mw_heap hlt es c) (hz _) hf
  simp only [Sem.run_bind, h1, h2, this, Result.andThen_ok, Sem.run_pure]
theorem wpl_store {t ty : TypeId} {x y : Operand} {g : Nat} {c1 c2 : Value} {cur : Array Value} (hg : o.guard = none) (ho : o.op = .store t x y) (h1 : a.eval x = .pointer (some ⟨g, 0, none⟩)) (h2 : a.eval y = .agg #[c1, c2])
    (hs : ∀ w', (sizeOf t).run P w' = .ok 2 w') (o1 : c1.oneCell' = true) (o2 : c2.oneCell' = true) (hb : w.heap[g]? = some (.cells cur ty (0, 0))) (hc : cur.size = 2)
    (k : wpList P ops Q rest (a.put o.dst undef) (w.setRow g #[c1, c2])) : wpList P ops Q (o :: rest) a w := by
  refine wpl_skip hg ?_ k
  unfold execOp
  rw [ho]
  have hst := run_storeCells_from (P := P) g ty [c1, c2] 0 cur w hb (by simp [hc]) (fun v hv => by simp at hv; rcases hv with rfl | rfl <;> assumption)
  have h3 : ¬ (Value.agg #[c1, c2]).cells.size ≠ 2 := by simp [Value.cells]
  have h4 : (Value.agg #[c1, c2]).cells.toList = [c1, c2] := rfl
  simp only [List.take_zero, List.nil_append] at hst
  simp only [Sem.run_bind, h1, h2, Instr.storeAt, Instr.sureAddr, storeVar, hs, if_neg h3, h4, hst, Sem.run_pure, Result.andThen_ok]
end
def es6 : Array MapEntry := #[entry ([105,56,120,49,54],8,0) 0, entry ([105,49,54,120,56],16,0) 1, entry ([105,51,50,120,52],32,0) 2, entry ([105,54,52,120,50],64,0) 3, entry ([102,51,50,120,52],32,1) 4, entry ([102,54,52,120,50],64,1) 5]
theorem shaped_calls (s : List UInt8) (w : World) : Calls Tryz.prog 35 #[.string ⟨s.toArray⟩] w (fun e w' => e = .returned (.agg #[.int .i64 ((shapeOf s shapes).1 : Int), .bool (decide ((shapeOf s shapes).2 ≠ 0))]) ∧ Below w.heap.size w w') := by
  have hm : Tryz.prog.underlying 70 = some (.map 9 54) := by kernel_rfl
  have hk : Tryz.prog.underlying 9 = some .string := by kernel_rfl
  have hz : ∀ w' : World, (zeroValue 54).run Tryz.prog w' = .ok (.agg #[.int .i64 0, .bool false]) w' := fun w' => by
    have h : (Tryz.prog.info? 54).bind (·.zero) = some (.agg #[.int .i64 0, .bool false]) := by kernel_rfl
    cases hi : Tryz.prog.info? 54 with
    | none => rw [hi] at h; cases h
    | some i =>
      rw [hi] at h
      have h' : i.zero = some (.agg #[.int .i64 0, .bool false]) := h
      simp [zeroValue, typeInfo, hi, h']
  have hs : ∀ w' : World, (sizeOf 54).run Tryz.prog w' = .ok 2 w' := fun w' => by
    have h : (Tryz.prog.info? 54).map (·.size) = some 2 := by kernel_rfl
    cases hi : Tryz.prog.info? 54 with
    | none => rw [hi] at h; cases h
    | some i =>
      rw [hi] at h
      have h' : i.size = 2 := by simpa using h
      simp [sizeOf, typeInfo, hi, h']
  let w1 : World := w.alloc (.cells #[.int .i64 0, .bool false] 54)
  let w2 : World := w1.alloc (.map #[] 0)
  have hw2 : w.heap.size + 1 < w2.heap.size := by simp [w2, w1]
  have hm0 : w2 = mw w2 (w.heap.size + 1) #[] 0 := by
    have h : w2.heap[w.heap.size + 1]? = some (.map #[] 0) := by
      have := (MapKept.heap_alloc w1 (.map #[] 0)).1
      have hs1 : w1.heap.size = w.heap.size + 1 := by simp [w1]
      rw [hs1] at this
      exact this
    have h' : w2.heap.setIfInBounds (w.heap.size + 1) (.map #[] 0) = w2.heap := by
      apply Array.ext_getElem?
      intro k
      by_cases hk : w.heap.size + 1 = k
      · subst hk
        simp [hw2]
        exact ((Array.getElem?_eq_some_iff.1 h).2).symm
      · rw [Array.getElem?_setIfInBounds_ne hk]
    simp only [mw, h']
  refine calls_of_wp Tryz.func35 rfl ?_
  refine wp_seq (wp_region_lit (wpl_val rfl (v := .pointer (some ⟨w.heap.size, 0, none⟩)) (w' := w1) ?_ (wpList_nil ?_)))
  · show (Instr.alloc 54 true (.tuple #[]) >>= fun v => pure (Next.value v) : Sem Next).run Tryz.prog w = _
    simp only [Instr.alloc, newVar, newRow, Sem.run_bind, hz, Result.andThen_ok, Value.cells, run_newObj_alloc, Sem.run_pure]
    rfl
  refine wp_seq (wp_region_lit (wpl_val rfl (v := .map (some (w.heap.size + 1))) (w' := w2) ?_ ?_))
  · show (Instr.makeMap 70 none >>= fun v => pure (Next.value v) : Sem Next).run Tryz.prog w1 = _
    rw [Sem.run_bind, run_makeMap_plain]
    have hs1 : w1.heap.size = w.heap.size + 1 := by simp [w1]
    simp only [Result.andThen_ok, Sem.run_pure, hs1]
    rfl
  rw [hm0]
  refine wpl_build rfl rfl (cs := #[.int .i64 8, .bool false]) (by kernel_rfl) ?_
  refine wpl_insert (m := .tmp 4) (kk := .const (.string ⟨#[105, 56, 120, 49, 54]⟩)) (x := .tmp 5) (es := #[]) (es' := #[entry ([105,56,120,49,54],8,0) 0]) (c := 0) (s := ⟨#[105, 56, 120, 49, 54]⟩) (val := .agg #[.int .i64 8, .bool false]) hm hk rfl rfl (by kernel_rfl) (by kernel_rfl) (by kernel_rfl) hw2 (by kernel_rfl) (by kernel_rfl) ?_
  refine wpl_build rfl rfl (cs := #[.int .i64 16, .bool false]) (by kernel_rfl) ?_
  refine wpl_insert (m := .tmp 4) (kk := .const (.string ⟨#[105, 49, 54, 120, 56]⟩)) (x := .tmp 6) (es := #[entry ([105,56,120,49,54],8,0) 0]) (es' := #[entry ([105,56,120,49,54],8,0) 0, entry ([105,49,54,120,56],16,0) 1]) (c := 1) (s := ⟨#[105, 49, 54, 120, 56]⟩) (val := .agg #[.int .i64 16, .bool false]) hm hk rfl rfl (by kernel_rfl) (by kernel_rfl) (by kernel_rfl) hw2 (by kernel_rfl) (by kernel_rfl) ?_
  refine wpl_build rfl rfl (cs := #[.int .i64 32, .bool false]) (by kernel_rfl) ?_
  refine wpl_insert (m := .tmp 4) (kk := .const (.string ⟨#[105, 51, 50, 120, 52]⟩)) (x := .tmp 7) (es := #[entry ([105,56,120,49,54],8,0) 0, entry ([105,49,54,120,56],16,0) 1]) (es' := #[entry ([105,56,120,49,54],8,0) 0, entry ([105,49,54,120,56],16,0) 1, entry ([105,51,50,120,52],32,0) 2]) (c := 2) (s := ⟨#[105, 51, 50, 120, 52]⟩) (val := .agg #[.int .i64 32, .bool false]) hm hk rfl rfl (by kernel_rfl) (by kernel_rfl) (by kernel_rfl) hw2 (by kernel_rfl) (by kernel_rfl) ?_
  refine wpl_build rfl rfl (cs := #[.int .i64 64, .bool false]) (by kernel_rfl) ?_
  refine wpl_insert (m := .tmp 4) (kk := .const (.string ⟨#[105, 54, 52, 120, 50]⟩)) (x := .tmp 8) (es := #[entry ([105,56,120,49,54],8,0) 0, entry ([105,49,54,120,56],16,0) 1, entry ([105,51,50,120,52],32,0) 2]) (es' := #[entry ([105,56,120,49,54],8,0) 0, entry ([105,49,54,120,56],16,0) 1, entry ([105,51,50,120,52],32,0) 2, entry ([105,54,52,120,50],64,0) 3]) (c := 3) (s := ⟨#[105, 54, 52, 120, 50]⟩) (val := .agg #[.int .i64 64, .bool false]) hm hk rfl rfl (by kernel_rfl) (by kernel_rfl) (by kernel_rfl) hw2 (by kernel_rfl) (by kernel_rfl) ?_
  refine wpl_build rfl rfl (cs := #[.int .i64 32, .bool true]) (by kernel_rfl) ?_
  refine wpl_insert (m := .tmp 4) (kk := .const (.string ⟨#[102, 51, 50, 120, 52]⟩)) (x := .tmp 9) (es := #[entry ([105,56,120,49,54],8,0) 0, entry ([105,49,54,120,56],16,0) 1, entry ([105,51,50,120,52],32,0) 2, entry ([105,54,52,120,50],64,0) 3]) (es' := #[entry ([105,56,120,49,54],8,0) 0, entry ([105,49,54,120,56],16,0) 1, entry ([105,51,50,120,52],32,0) 2, entry ([105,54,52,120,50],64,0) 3, entry ([102,51,50,120,52],32,1) 4]) (c := 4) (s := ⟨#[102, 51, 50, 120, 52]⟩) (val := .agg #[.int .i64 32, .bool true]) hm hk rfl rfl (by kernel_rfl) (by kernel_rfl) (by kernel_rfl) hw2 (by kernel_rfl) (by kernel_rfl) ?_
  refine wpl_build rfl rfl (cs := #[.int .i64 64, .bool true]) (by kernel_rfl) ?_
  refine wpl_insert (m := .tmp 4) (kk := .const (.string ⟨#[102, 54, 52, 120, 50]⟩)) (x := .tmp 10) (es := #[entry ([105,56,120,49,54],8,0) 0, entry ([105,49,54,120,56],16,0) 1, entry ([105,51,50,120,52],32,0) 2, entry ([105,54,52,120,50],64,0) 3, entry ([102,51,50,120,52],32,1) 4]) (es' := #[entry ([105,56,120,49,54],8,0) 0, entry ([105,49,54,120,56],16,0) 1, entry ([105,51,50,120,52],32,0) 2, entry ([105,54,52,120,50],64,0) 3, entry ([102,51,50,120,52],32,1) 4, entry ([102,54,52,120,50],64,1) 5]) (c := 5) (s := ⟨#[102, 54, 52, 120, 50]⟩) (val := .agg #[.int .i64 64, .bool true]) hm hk rfl rfl (by kernel_rfl) (by kernel_rfl) (by kernel_rfl) hw2 (by kernel_rfl) (by kernel_rfl) ?_
  refine wpl_move (x := .tmp 4) (v := .map (some (w.heap.size + 1))) rfl (.inl rfl) (by kernel_rfl) ?_
  refine wpl_move (x := .tmp 11) (v := .map (some (w.heap.size + 1))) rfl (.inr rfl) (by kernel_rfl) ?_
  refine wpList_nil ?_
  obtain ⟨fa, hfa, hfv⟩ := find_shape s shapes 0 0
  have hes : es6.toList = (shapes.zipIdx 0).map fun x => entry x.1 x.2 := rfl
  refine wp_seq (wp_region_lit (wpl_move (x := .tmp 3) (v := .map (some (w.heap.size + 1))) rfl (.inl rfl) (by kernel_rfl) ?_))
  refine wpl_move (x := .tmp 0) (v := .string ⟨s.toArray⟩) rfl (.inl rfl) (by kernel_rfl) ?_
  refine wpl_look (m := .tmp 12) (kk := .tmp 13) (s := ⟨s.toArray⟩) (es := es6) (a' := fa) hm hk rfl rfl (by kernel_rfl) (by kernel_rfl) hw2 hz (by rw [hes]; exact hfa) hfv ?_
  have hcell : (mw w2 (w.heap.size + 1) es6 6).heap[w.heap.size]? = some (.cells #[.int .i64 0, .bool false] 54 (0, 0)) := by
    simp only [mw]
    rw [Array.getElem?_setIfInBounds_ne (by omega)]
    exact ((MapKept.heap_alloc w1 _).2 w.heap.size (by simp [w1])).trans (MapKept.heap_alloc w _).1
  refine wpl_store (x := .tmp 2) (y := .tmp 14) (g := w.heap.size) (c1 := .int .i64 ((shapeOf s shapes).1 : Int)) (c2 := .bool (decide ((shapeOf s shapes).2 ≠ 0))) rfl rfl (by kernel_rfl) (by kernel_rfl) hs rfl rfl hcell rfl ?_
  refine wpList_nil (wp_ret ⟨rfl, .agg #[.int .i64 ((shapeOf s shapes).1 : Int), .bool (decide ((shapeOf s shapes).2 ≠ 0))], ?_, rfl, ?_⟩)
  · have hrow := setRow_heap (mw w2 (w.heap.size + 1) es6 6) w.heap.size _ #[.int .i64 ((shapeOf s shapes).1 : Int), .bool (decide ((shapeOf s shapes).2 ≠ 0))] 54 (0, 0) hcell
    have hag : ∀ w', (isAgg 54).run Tryz.prog w' = .ok true w' := fun w' => isAgg_run Tryz.prog (t := 54) (by kernel_rfl) w'
    have hld := run_loadCells_list (P := Tryz.prog) ((mw w2 (w.heap.size + 1) es6 6).setRow w.heap.size #[.int .i64 ((shapeOf s shapes).1 : Int), .bool (decide ((shapeOf s shapes).2 ≠ 0))]) ⟨w.heap.size, 0, none⟩
      [.int .i64 ((shapeOf s shapes).1 : Int), .bool (decide ((shapeOf s shapes).2 ≠ 0))] (fun j v hj => by
        rw [add_plain', cell_of_row _ _ _ _ _ _ hrow]
        simpa using hj)
    have hfr : Tryz.f35.results.toList = [.cell 2 54] := rfl
    have hres : ∀ ts : Array Value, results Tryz.f35 ts = (Tryz.f35.results.mapM (resSem ts) >>= fun vs => pure (if h : vs.size = 1 then vs[0] else .tuple vs)) := fun _ => rfl
    have key : ∀ ts : Array Value, ts.getD 2 undef = .pointer (some ⟨w.heap.size, 0, none⟩) →
        (results Tryz.f35 ts).run Tryz.prog ((mw w2 (w.heap.size + 1) es6 6).setRow w.heap.size #[.int .i64 ((shapeOf s shapes).1 : Int), .bool (decide ((shapeOf s shapes).2 ≠ 0))]) =
          .ok (.agg #[.int .i64 ((shapeOf s shapes).1 : Int), .bool (decide ((shapeOf s shapes).2 ≠ 0))]) ((mw w2 (w.heap.size + 1) es6 6).setRow w.heap.size #[.int .i64 ((shapeOf s shapes).1 : Int), .bool (decide ((shapeOf s shapes).2 ≠ 0))]) := by
      intro ts hts
      rw [hres, Array.mapM_eq_mapM_toList, hfr]
      simp only [List.mapM_cons, List.mapM_nil, resSem, hts, asAddr, loadVar]
      have hld' : (loadCells ⟨w.heap.size, 0, none⟩ 2).run Tryz.prog ((mw w2 (w.heap.size + 1) es6 6).setRow w.heap.size #[.int .i64 ((shapeOf s shapes).1 : Int), .bool (decide ((shapeOf s shapes).2 ≠ 0))]) = _ := hld
      generalize decide ((shapeOf s shapes).2 ≠ 0) = bb at hld' ⊢
      simp [hag, hs, hld']
    exact key _ (by kernel_rfl)
  · have b1 : Below w.heap.size w w1 := (Below.refl _ w).alloc (Nat.le_refl _) _
    have b2 : Below w.heap.size w w2 := b1.alloc (by simp [w1]) _
    have b3 : Below w.heap.size w (mw w2 (w.heap.size + 1) es6 6) := b2.trans ⟨rfl, rfl, rfl, by simp [mw], fun k hk => by
      simp only [mw]
      exact Array.getElem?_setIfInBounds_ne (by omega)⟩
    exact b3.trans ⟨rfl, rfl, rfl, by simp, fun k hk => setRow_other _ _ _ _ (by omega)⟩

end Sx
end Go.Proofs.YtfdggebddcoeeaaGreatDoor
end

/-
  Summaries: shaped, IndexByteString, CountString; what a call that leaves numbers alone does.
-/
set_option maxRecDepth 100000
noncomputable section
namespace Go.Proofs.YtfdggebddcoeeaaGreatDoor
namespace Sx
open Go Go.RowKit
variable {E : Env} {G : Gl}

theorem step_of_below {P : Program} {loc : Nat → Nat × Nat} {nx : Nat} {hp : Tr SBlk} {w w' : World} (hr : HRel E loc P nx hp w) (hb : Below w.heap.size w w') {v : SV} (hv : v.wf E nx) : Step E loc P w.heap.size nx nx nx hp w v loc w' :=
  ⟨Nat.le_refl _, fun _ _ => rfl, hrel_below hr hb, hb, fun b h1 h2 => absurd h2 (Nat.not_lt_of_le h1), hv⟩
theorem cx_of_calls {P : Program} (hP : OkP P) {f : FuncId} {fn : Func} (hf : P.funcs[f]? = some fn) (hb : fn.body.isSome = true) {args : Array Value} {w : World} {R : Value → World → Prop}
    (h : Calls P f args w (fun e w' => match e with | .returned v => R v w' | _ => False)) : CX P f args w R := by
  obtain ⟨c, hc⟩ := Option.isSome_iff_exists.1 hb
  have hok := hP f fn hf
  simp only [okFn, hc, Bool.and_eq_true, Bool.not_eq_true'] at hok
  have hn : (fn.name == "runtime.NumGoroutine") = false := hok.2
  have hpr : (program).run P w = .ok P w := rfl
  have hcall : (callFunc f args).run P w = .ok (.enter f args) w := by
    simp only [callFunc, Sem.run_bind, hpr, Result.andThen_ok, hf, hn, hc, Option.isNone_some, Bool.false_eq_true, if_false, Sem.run_pure]
  unfold CX
  rw [hcall]
  exact h
def smShaped : Sm := fun a hp nx => match a with
  | [.str s] => some (.agg [.int .i64 (.lit (.ofNat (shapeOf s shapes).1)), .bool (.lit (.ofNat (shapeOf s shapes).2))], hp, nx)
  | _ => none
theorem shape_small (s : List UInt8) : (shapeOf s shapes).1 ≤ 64 := by
  simp only [shapes, shapeOf]
  repeat' (cases eqB _ s <;> simp only [Bool.cond_true, Bool.cond_false])
  all_goals decide
theorem shaped_ok : SmOk E Tryz.prog G 35 smShaped := by
  intro args hp nx v hp' nx' h loc w hr hg hw
  unfold smShaped at h
  split at h
  · rename_i s
    cases h
    refine cx_of_calls okP Tryz.func35 rfl ((shaped_calls s w).mono fun e w' ⟨he, hb⟩ => ?_)
    subst he
    refine ⟨loc, ?_, step_of_below hr hb ?_⟩
    · simp [SV.den, denL, SE.den]
    · have := shape_small s
      refine ⟨?_, trivial, trivial⟩
      simp [SV.wf, SE.den, inR, IntKind.min, IntKind.max, IntKind.signed, IntKind.bits]
      omega
  · cases h

/-! two of the library's own -/
def idxB (c : Nat) : List UInt8 → Nat → Int
  | [], _ => -1
  | x :: l, i => cond (Nat.beq x.toNat c) (.ofNat i) (idxB c l (i + 1))
def cntB (c : Nat) : List UInt8 → Nat
  | [] => 0
  | x :: l => cond (Nat.beq x.toNat c) (cntB c l + 1) (cntB c l)
theorem idxB_eq (c : UInt8) : ∀ (l : List UInt8) (i : Nat), idxB c.toNat l i = if Go.Lib.indexByte l c = -1 then -1 else Go.Lib.indexByte l c + i := by
  intro l
  induction l with
  | nil => intro i; rfl
  | cons x l ih =>
    intro i
    have hge := Go.Lib.indexByte_ge l c
    by_cases hx : x = c
    · subst hx
      have h0 : Go.Lib.indexByte (x :: l) x = 0 := by simp [Go.Lib.indexByte]
      rw [h0]
      simp only [idxB, Nat.beq_refl]
      simp
    · have h1 : Nat.beq x.toNat c.toNat = false := by
        cases hb : Nat.beq x.toNat c.toNat
        · rfl
        · exact absurd (UInt8.toNat_inj.1 (nbeq hb)) hx
      have h2 : (x == c) = false := by simpa using hx
      have h0 : Go.Lib.indexByte (x :: l) c = if Go.Lib.indexByte l c = -1 then -1 else Go.Lib.indexByte l c + 1 := by
        simp [Go.Lib.indexByte, hx]
      simp only [idxB, h1, Bool.cond_false]
      rw [ih, h0]
      by_cases h3 : Go.Lib.indexByte l c = -1
      · simp [h3]
      · have h5 : ¬ Go.Lib.indexByte l c + 1 = -1 := by omega
        simp only [if_neg h3, if_neg h5]
        omega
theorem cntB_eq (c : UInt8) (l : List UInt8) : cntB c.toNat l = Go.Lib.countByte l c := by
  unfold Go.Lib.countByte
  induction l with
  | nil => rfl
  | cons x l ih =>
    rw [List.count_cons]
    simp only [cntB, ih]
    by_cases hx : x = c
    · subst hx; simp [Nat.beq_refl]
    · have h1 : Nat.beq x.toNat c.toNat = false := by
        cases hb : Nat.beq x.toNat c.toNat
        · rfl
        · exact absurd (UInt8.toNat_inj.1 (nbeq hb)) hx
      have h2 : (x == c) = false := by simpa using hx
      simp [h1, h2]
theorem cntB_le (c : Nat) : ∀ l : List UInt8, cntB c l ≤ l.length := by
  intro l
  induction l with
  | nil => simp [cntB]
  | cons x l ih =>
    simp only [cntB, List.length_cons]
    cases Nat.beq x.toNat c <;> simp <;> omega
theorem idxB_in (c : Nat) : ∀ (l : List UInt8) (i : Nat), -1 ≤ idxB c l i ∧ idxB c l i ≤ i + l.length := by
  intro l
  induction l with
  | nil => intro i; simp only [idxB, List.length_nil]; omega
  | cons x l ih =>
    intro i
    simp only [idxB, List.length_cons]
    have := ih (i + 1)
    cases Nat.beq x.toNat c
    · simp only [Bool.cond_false]; omega
    · simp only [Bool.cond_true]; refine ⟨?_, ?_⟩ <;> (show _ ≤ _) <;> simp <;> omega
def smIdx : Sm := fun a hp nx => match a with
  | [.str s, .int .u8 (.lit (.ofNat c))] => cond (and (Nat.blt c 256) (Nat.ble s.length many)) (some (.int .i64 (.lit (idxB c s 0)), hp, nx)) none
  | _ => none
def smCnt : Sm := fun a hp nx => match a with
  | [.str s, .int .u8 (.lit (.ofNat c))] => cond (and (Nat.blt c 256) (Nat.ble s.length many)) (some (.int .i64 (.lit (.ofNat (cntB c s))), hp, nx)) none
  | _ => none
theorem ext184 : ∃ fn, Tryz.prog.funcs[184]? = some fn ∧ (fn.name == "runtime.NumGoroutine") = false ∧ fn.body.isNone = true ∧ Extern.findNext fn = none ∧ Extern.find fn = some Extern.BytealgIndexByte.indexByte := ⟨_, Tryz.func184, by kernel_rfl, rfl, by kernel_rfl, by kernel_rfl⟩
theorem ext223 : ∃ fn, Tryz.prog.funcs[223]? = some fn ∧ (fn.name == "runtime.NumGoroutine") = false ∧ fn.body.isNone = true ∧ Extern.findNext fn = none ∧ Extern.find fn = some Extern.BytealgCount.count := ⟨_, Tryz.func223, by kernel_rfl, rfl, by kernel_rfl, by kernel_rfl⟩
theorem cx_extern {P : Program} {f : FuncId} {fn : Func} {e : Array Value → Sem Value} (hf : P.funcs[f]? = some fn) (hn : (fn.name == "runtime.NumGoroutine") = false) (hb : fn.body.isNone = true) (h1 : Extern.findNext fn = none) (h2 : Extern.find fn = some e)
    {args : Array Value} {w : World} {v : Value} (hr : (e args).run P w = .ok v w) {R : Value → World → Prop} (h : R v w) : CX P f args w R := by
  have hpr : (program).run P w = .ok P w := rfl
  have hcall : (callFunc f args).run P w = .ok (.value v) w := by
    simp only [callFunc, Sem.run_bind, hpr, Result.andThen_ok, hf, hn, hb, h1, h2, Bool.false_eq_true, if_false, if_true, Sem.run_pure, run_mark, hr]
  unfold CX
  rw [hcall]
  exact h
theorem idx_ok : SmOk E Tryz.prog G 184 smIdx := by
  intro args hp nx v hp' nx' h loc w hr hg hw
  unfold smIdx at h
  split at h
  · rename_i s c
    cases h1 : (and (Nat.blt c 256) (Nat.ble s.length many)) <;> rw [h1] at h <;> cases h
    obtain ⟨k1, k2⟩ := (Bool.and_eq_true _ _).mp h1
    have e1 := blt_lt k1
    have e2 : s.length ≤ 1048576 := Nat.le_of_ble_eq_true k2
    obtain ⟨fn, f1, f2, f3, f4, f5⟩ := ext184
    have hc : c.toUInt8.toNat = c := by
      simp
      try omega
    have hrun := Go.Lib.run_indexByteString (P := Tryz.prog) ⟨s.toArray⟩ (c : Int) w
    refine cx_extern f1 f2 f3 f4 f5 (v := .int .i64 (idxB c s 0)) ?_ ⟨loc, rfl, step_of_below hr (Below.refl _ w) ?_⟩
    · simp only [denL, SV.den, SE.den]
      rw [show (Int.ofNat c) = (c : Int) from rfl, hrun]
      have := idxB_eq c.toUInt8 s 0
      rw [hc] at this
      rw [this]
      simp

    · have := idxB_in c s 0
      simp [SV.wf, SE.den, inR, IntKind.min, IntKind.max, IntKind.signed, IntKind.bits]
      omega
  · cases h
theorem cnt_ok : SmOk E Tryz.prog G 223 smCnt := by
  intro args hp nx v hp' nx' h loc w hr hg hw
  unfold smCnt at h
  split at h
  · rename_i s c
    cases h1 : (and (Nat.blt c 256) (Nat.ble s.length many)) <;> rw [h1] at h <;> cases h
    obtain ⟨k1, k2⟩ := (Bool.and_eq_true _ _).mp h1
    have e1 := blt_lt k1
    have e2 : s.length ≤ 1048576 := Nat.le_of_ble_eq_true k2
    obtain ⟨fn, f1, f2, f3, f4, f5⟩ := ext223
    have hc : c.toUInt8.toNat = c := by
      simp
      try omega
    have hrun := Go.Lib.run_countString (P := Tryz.prog) ⟨s.toArray⟩ (c : Int) w
    refine cx_extern f1 f2 f3 f4 f5 (v := .int .i64 (cntB c s : Int)) ?_ ⟨loc, rfl, step_of_below hr (Below.refl _ w) ?_⟩
    · simp only [denL, SV.den, SE.den]
      rw [show (Int.ofNat c) = (c : Int) from rfl, hrun]
      have := cntB_eq c.toUInt8 s
      rw [hc] at this
      rw [this]
      simp
    · have := cntB_le c s
      simp [SV.wf, SE.den, inR, IntKind.min, IntKind.max, IntKind.signed, IntKind.bits]
      omega
  · cases h

end Sx
end Go.Proofs.YtfdggebddcoeeaaGreatDoor
end

/-
  Expressions bit by bit: two whole numbers below 2^n are one if all their bits are; a bit of an expression as a formula over bits of what it is made of.
-/
namespace Go.Proofs.YtfdggebddcoeeaaGreatDoor
namespace Sx
open Go

/-- bit i -/
def ibit (x : Int) (i : Nat) : Int := x / 2 ^ i % 2
theorem ibit_01 (x : Int) (i : Nat) : ibit x i = 0 ∨ ibit x i = 1 := by unfold ibit; omega
theorem ibit_zero (x : Int) : ibit x 0 = x % 2 := by simp [ibit]
theorem ibit_succ (x : Int) (i : Nat) : ibit x (i + 1) = ibit (x / 2) i := by
  unfold ibit
  rw [Int.ediv_ediv_of_nonneg (by decide : (0 : Int) ≤ 2), Int.pow_succ, Int.mul_comm]
theorem eq_of_bits : ∀ (n : Nat) {x y : Int}, (0 ≤ x ∧ x < 2 ^ n) → (0 ≤ y ∧ y < 2 ^ n) → (∀ i, i < n → ibit x i = ibit y i) → x = y := by
  intro n
  induction n with
  | zero => intro x y hx hy _; simp at hx hy; omega
  | succ n ih =>
    intro x y hx hy h
    have h0 := h 0 (by omega)
    rw [ibit_zero, ibit_zero] at h0
    rw [Int.pow_succ] at hx hy
    have h1 := ih (x := x / 2) (y := y / 2) ⟨by omega, by omega⟩ ⟨by omega, by omega⟩ fun i hi => by
      rw [← ibit_succ, ← ibit_succ]; exact h (i + 1) (by omega)
    omega
theorem ibit_big {x : Int} {n i : Nat} (h : 0 ≤ x ∧ x < 2 ^ n) (hi : n ≤ i) : ibit x i = 0 := by
  unfold ibit
  rw [Int.ediv_eq_zero_of_lt h.1 (Int.lt_of_lt_of_le h.2 (two_pow_mono hi))]
  rfl
theorem ibit_mod (x : Int) {n i : Nat} (h : i < n) : ibit (x % 2 ^ n) i = ibit x i := by
  have hi := two_pow_pos i
  have e : (2 : Int) ^ n = 2 ^ i * (2 * 2 ^ (n - i - 1)) := by
    have : (2 : Int) * 2 ^ (n - i - 1) = 2 ^ (n - i) := by
      rw [Int.mul_comm, ← Int.pow_succ]; congr 1; omega
    rw [this, ← Int.pow_add]; congr 1; omega
  have hx : x = x % 2 ^ n + 2 ^ i * (2 * (2 ^ (n - i - 1) * (x / 2 ^ n))) := by
    have h1 := (Int.emod_add_mul_ediv x (2 ^ n)).symm
    have h2 : (2 : Int) ^ n * (x / 2 ^ n) = 2 ^ i * (2 * (2 ^ (n - i - 1) * (x / 2 ^ n))) := by
      conv => lhs; rw [e]
      simp only [Int.mul_assoc]
      rw [← e]
    rw [← h2]
    exact h1
  unfold ibit
  have h3 : x / 2 ^ i = x % 2 ^ n / 2 ^ i + 2 * (2 ^ (n - i - 1) * (x / 2 ^ n)) := by
    conv => lhs; rw [hx]
    exact Int.add_mul_ediv_left _ _ (by omega)
  rw [h3, Int.add_mul_emod_self_left]
theorem ibit_cat_low (x r : Int) {b i : Nat} (h : i < b) : ibit (x % 2 ^ b + 2 ^ b * r) i = ibit x i := by
  rw [← ibit_mod _ h, cat_emod_low x r (Nat.le_refl b), ibit_mod _ h]
theorem ibit_cat_high (x r : Int) {b i : Nat} (h : b ≤ i) : ibit (x % 2 ^ b + 2 ^ b * r) i = ibit r (i - b) := by
  unfold ibit
  rw [cat_ediv x r h]
theorem ibit_shr (x : Int) (m i : Nat) : ibit (x / 2 ^ m) i = ibit x (i + m) := by
  unfold ibit
  rw [Int.ediv_ediv_of_nonneg (Int.le_of_lt (two_pow_pos m)), ← Int.pow_add, Nat.add_comm]
theorem shl_cat (x : Int) (m : Nat) : x * 2 ^ m = 0 % 2 ^ m + 2 ^ m * x := by
  rw [Int.zero_emod, Int.zero_add, Int.mul_comm]
theorem ibit_zero' (i : Nat) : ibit 0 i = 0 := by simp [ibit]
theorem ibit_shl_low (x : Int) {m i : Nat} (h : i < m) : ibit (x * 2 ^ m) i = 0 := by rw [shl_cat, ibit_cat_low _ _ h, ibit_zero']
theorem ibit_shl_high (x : Int) {m i : Nat} (h : m ≤ i) : ibit (x * 2 ^ m) i = ibit x (i - m) := by rw [shl_cat, ibit_cat_high _ _ h]
theorem ibit_nat (n i : Nat) : ibit (n : Int) i = if n.testBit i then 1 else 0 := by
  have h : ibit (n : Int) i = ((n / 2 ^ i % 2 : Nat) : Int) := by unfold ibit; push_cast; rfl
  rw [h, Nat.testBit_eq_decide_div_mod_eq]
  have := Nat.mod_lt (n / 2 ^ i) (show 0 < 2 by decide)
  by_cases h1 : n / 2 ^ i % 2 = 1
  · simp [h1]
  · have : n / 2 ^ i % 2 = 0 := by omega
    simp [this]
theorem ibit_wrap_low (k : IntKind) (x : Int) {i : Nat} (h : i < k.bits) : ibit (k.wrap x) i = ibit x i := by
  simp only [IntKind.wrap]
  split
  · have e : x % 2 ^ k.bits - 2 ^ k.bits = x % 2 ^ k.bits + 2 ^ k.bits * (-1) := by omega
    rw [e, ibit_cat_low _ _ h]
  · exact ibit_mod x h
theorem ibit_sign {y : Int} {m i : Nat} (h : -(2 : Int) ^ m ≤ y ∧ y < 2 ^ m) (hi : m ≤ i) : ibit y i = if y < 0 then 1 else 0 := by
  have hm := two_pow_mono hi
  have hp := two_pow_pos i
  unfold ibit
  by_cases hy : y < 0
  · have : y / 2 ^ i = -1 := by
      apply (Int.ediv_eq_iff_of_pos hp).2
      omega
    rw [this, if_pos hy]; rfl
  · rw [Int.ediv_eq_zero_of_lt (by omega) (by omega), if_neg hy]; rfl
theorem wrap_signed_range {k : IntKind} (h : k.signed = true) (x : Int) : -(2 : Int) ^ (k.bits - 1) ≤ k.wrap x ∧ k.wrap x < 2 ^ (k.bits - 1) := by
  cases k <;> simp [IntKind.signed] at h <;> simp [IntKind.wrap, IntKind.bits, IntKind.signed] <;> omega
theorem ibit_wrap_high {k : IntKind} (hs : k.signed = true) (x : Int) {i : Nat} (h : k.bits - 1 ≤ i) : ibit (k.wrap x) i = ibit x (k.bits - 1) := by
  have hb : k.bits - 1 < k.bits := by cases k <;> decide
  have hr := wrap_signed_range hs x
  rw [ibit_sign hr h, ← ibit_wrap_low k x hb, ibit_sign hr (Nat.le_refl _)]
theorem ibit_wrap_high_u {k : IntKind} (hs : k.signed = false) (x : Int) {i : Nat} (h : k.bits ≤ i) : ibit (k.wrap x) i = 0 := by
  rw [wrap_unsigned hs]
  exact ibit_big (emod_range x k.bits) h
theorem ofInt_bit (w : Nat) (x : Int) {i : Nat} (h : i < w) : (if (BitVec.ofInt w x).toNat.testBit i then (1 : Int) else 0) = ibit x i := by
  rw [← ibit_nat, ofInt_toNat, ibit_mod x h]
theorem bitsI_eq {o : BinOp} {k : IntKind} (hs : k.signed = false) (x y : Int) : bitsI o k x y = ((match o with
  | .and => (BitVec.ofInt k.bits x &&& BitVec.ofInt k.bits y).toNat
  | .or => (BitVec.ofInt k.bits x ||| BitVec.ofInt k.bits y).toNat
  | .xor => (BitVec.ofInt k.bits x ^^^ BitVec.ofInt k.bits y).toNat
  | _ => (BitVec.ofInt k.bits x &&& ~~~BitVec.ofInt k.bits y).toNat : Nat) : Int) := by
  have hb : ∀ v : BitVec k.bits, ((v.toNat : Int)) % 2 ^ k.bits = (v.toNat : Int) := fun v => by
    apply Int.emod_eq_of_lt (by omega)
    have := v.isLt
    exact_mod_cast this
  unfold bitsI
  rw [wrap_unsigned hs]
  cases o <;> exact hb _
theorem ibit_and {k : IntKind} (hs : k.signed = false) (x y : Int) {i : Nat} (h : i < k.bits) : ibit (bitsI .and k x y) i = ibit x i * ibit y i := by
  rw [bitsI_eq hs, ibit_nat, BitVec.toNat_and, Nat.testBit_and, ← ofInt_bit _ x h, ← ofInt_bit _ y h]
  cases (BitVec.ofInt k.bits x).toNat.testBit i <;> cases (BitVec.ofInt k.bits y).toNat.testBit i <;> rfl
theorem ibit_or {k : IntKind} (hs : k.signed = false) (x y : Int) {i : Nat} (h : i < k.bits) : ibit (bitsI .or k x y) i = ibit x i + ibit y i - ibit x i * ibit y i := by
  rw [bitsI_eq hs, ibit_nat, BitVec.toNat_or, Nat.testBit_or, ← ofInt_bit _ x h, ← ofInt_bit _ y h]
  cases (BitVec.ofInt k.bits x).toNat.testBit i <;> cases (BitVec.ofInt k.bits y).toNat.testBit i <;> rfl
theorem ibit_xor {k : IntKind} (hs : k.signed = false) (x y : Int) {i : Nat} (h : i < k.bits) : ibit (bitsI .xor k x y) i = (ibit x i + ibit y i) % 2 := by
  rw [bitsI_eq hs, ibit_nat, BitVec.toNat_xor, Nat.testBit_xor, ← ofInt_bit _ x h, ← ofInt_bit _ y h]
  cases (BitVec.ofInt k.bits x).toNat.testBit i <;> cases (BitVec.ofInt k.bits y).toNat.testBit i <;> rfl
theorem ibit_andNot {k : IntKind} (hs : k.signed = false) (x y : Int) {i : Nat} (h : i < k.bits) : ibit (bitsI .andNot k x y) i = ibit x i * (1 - ibit y i) := by
  rw [bitsI_eq hs, ibit_nat, ← ofInt_bit _ x h, ← ofInt_bit _ y h]
  have e1 : ∀ v : BitVec k.bits, v.toNat.testBit i = v.getLsbD i := fun v => rfl
  simp only [e1, BitVec.getLsbD_and, BitVec.getLsbD_not, h, decide_true, Bool.true_and]
  cases (BitVec.ofInt k.bits x).getLsbD i <;> cases (BitVec.ofInt k.bits y).getLsbD i <;> rfl
theorem bitsI_range {o : BinOp} {k : IntKind} (hs : k.signed = false) (x y : Int) : 0 ≤ bitsI o k x y ∧ bitsI o k x y < 2 ^ k.bits := by
  unfold bitsI
  rw [wrap_unsigned hs]
  exact emod_range _ _
theorem not_sub {e : Int} {m : Nat} (h : 0 ≤ e ∧ e < 2 ^ m) : ∀ {i : Nat}, i < m → ibit (2 ^ m - 1 - e) i = 1 - ibit e i := by
  induction m generalizing e with
  | zero => intro i hi; omega
  | succ m ih =>
    intro i hi
    rw [Int.pow_succ] at h ⊢
    cases i with
    | zero =>
      rw [ibit_zero, ibit_zero]
      omega
    | succ i =>
      rw [ibit_succ, ibit_succ, ← ih (e := e / 2) ⟨by omega, by omega⟩ (by omega)]
      congr 1
      omega

/-! formulas -/
inductive BF where
  | c (b : Bool)
  | g (e : SE) (k : Nat)
  | not (a : BF)
  | and (a b : BF)
  | or (a b : BF)
  | xor (a b : BF)
def BF.val (E : Env) : BF → Int
  | .c b => cond b 1 0
  | .g e k => ibit (e.den E) k
  | .not a => 1 - a.val E
  | .and a b => a.val E * b.val E
  | .or a b => a.val E + b.val E - a.val E * b.val E
  | .xor a b => (a.val E + b.val E) % 2
variable (E : Env)
theorem BF.val01 : ∀ f : BF, f.val E = 0 ∨ f.val E = 1 := by
  intro f
  induction f with
  | c b => cases b <;> simp [BF.val]
  | g e k => exact ibit_01 _ _
  | not a ih => rcases ih with h | h <;> simp [BF.val, h]
  | and a b iha ihb => rcases iha with h | h <;> rcases ihb with h' | h' <;> simp [BF.val, h, h']
  | or a b iha ihb => rcases iha with h | h <;> rcases ihb with h' | h' <;> simp [BF.val, h, h']
  | xor a b iha ihb => simp only [BF.val]; omega
def mkNotB : BF → BF
  | .c b => .c (not b)
  | .not a => a
  | f => .not f
theorem mkNotB_val (f : BF) : (mkNotB f).val E = 1 - f.val E := by
  cases f <;> try rfl
  · rename_i b; cases b <;> rfl
  · simp only [mkNotB, BF.val]; omega
def mkAndB (a b : BF) : BF := match a with
  | .c x => cond x b (.c false)
  | a => match b with
    | .c y => cond y a (.c false)
    | b => .and a b
theorem mkAndB_val (a b : BF) : (mkAndB a b).val E = a.val E * b.val E := by
  unfold mkAndB
  split
  · rename_i x; cases x <;> simp [BF.val]
  · split
    · rename_i y; cases y <;> simp [BF.val]
    · rfl
def mkOrB (a b : BF) : BF := match a with
  | .c x => cond x (.c true) b
  | a => match b with
    | .c y => cond y (.c true) a
    | b => .or a b
theorem mkOrB_val (a b : BF) : (mkOrB a b).val E = a.val E + b.val E - a.val E * b.val E := by
  unfold mkOrB
  split
  · rename_i x; cases x <;> simp [BF.val] <;> omega
  · split
    · rename_i y; cases y <;> simp [BF.val] <;> omega
    · rfl
def mkXorB (a b : BF) : BF := match a with
  | .c x => cond x (mkNotB b) b
  | a => match b with
    | .c y => cond y (mkNotB a) a
    | b => .xor a b
theorem mkXorB_val (a b : BF) : (mkXorB a b).val E = (a.val E + b.val E) % 2 := by
  have h1 := BF.val01 E a
  have h2 := BF.val01 E b
  unfold mkXorB
  split
  · rename_i x
    cases x <;> simp only [cond, mkNotB_val, BF.val] at * <;> omega
  · split
    · rename_i y
      cases y <;> simp only [cond, mkNotB_val, BF.val] at * <;> omega
    · rfl
def BF.beq : BF → BF → Bool
  | .c a, .c b => a == b
  | .g e k, .g f l => cond (Nat.beq k l) (SE.beq e f) false
  | .not a, .not b => a.beq b
  | .and a b, .and x y => cond (a.beq x) (b.beq y) false
  | .or a b, .or x y => cond (a.beq x) (b.beq y) false
  | .xor a b, .xor x y => cond (a.beq x) (b.beq y) false
  | _, _ => false
theorem BF.beq_eq : ∀ {a b : BF}, a.beq b = true → a = b := by
  intro a
  induction a with
  | c x => intro b h; cases b <;> simp only [BF.beq, Bool.false_eq_true] at h; simp at h; rw [h]
  | g e k =>
    intro b h
    cases b <;> simp only [BF.beq, Bool.false_eq_true] at h
    rename_i e' l
    cases h1 : Nat.beq k l <;> rw [h1] at h
    · cases h
    · rw [Nat.eq_of_beq_eq_true h1, SE.beq_eq h]
  | not a ih => intro b h; cases b <;> simp only [BF.beq, Bool.false_eq_true] at h; rw [ih h]
  | and a b iha ihb =>
    intro x h
    cases x <;> simp only [BF.beq, Bool.false_eq_true] at h
    rename_i y z
    cases h1 : a.beq y <;> rw [h1] at h
    · cases h
    · rw [iha h1, ihb h]
  | or a b iha ihb =>
    intro x h
    cases x <;> simp only [BF.beq, Bool.false_eq_true] at h
    rename_i y z
    cases h1 : a.beq y <;> rw [h1] at h
    · cases h
    · rw [iha h1, ihb h]
  | xor a b iha ihb =>
    intro x h
    cases x <;> simp only [BF.beq, Bool.false_eq_true] at h
    rename_i y z
    cases h1 : a.beq y <;> rw [h1] at h
    · cases h
    · rw [iha h1, ihb h]

/-! the bits of an expression -/
def litBit (n : Int) (e : SE) (i : Nat) : BF := match n with
  | .ofNat m => .c (Nat.beq (Nat.mod (Nat.div m (Nat.pow 2 i)) 2) 1)
  | .negSucc _ => .g e i
def bitAt : SE → Nat → BF
  | .lit n, i => litBit n (.lit n) i
  | .md a b, i => cond (Nat.blt i b) (bitAt a i) (.c false)
  | .shr a n, i => match n with
    | .lit l => match l with
      | .ofNat m => bitAt a (Nat.add i m)
      | .negSucc m => .g (.shr a (.lit (.negSucc m))) i
    | n => .g (.shr a n) i
  | .shl a n, i => match n with
    | .lit l => match l with
      | .ofNat m => cond (Nat.blt i m) (.c false) (bitAt a (Nat.sub i m))
      | .negSucc m => .g (.shl a (.lit (.negSucc m))) i
    | n => .g (.shl a n) i
  | .cat x b r, i => cond (Nat.blt i b) (bitAt x i) (bitAt r (Nat.sub i b))
  | .wrap k a, i => cond (Nat.blt i k.bits) (bitAt a i) (cond k.signed (bitAt a (Nat.sub k.bits 1)) (.c false))
  | .bit o k a b, i => cond k.signed (.g (.bit o k a b) i) (cond (Nat.blt i k.bits) (match o with
    | .and => mkAndB (bitAt a i) (bitAt b i)
    | .or => mkOrB (bitAt a i) (bitAt b i)
    | .xor => mkXorB (bitAt a i) (bitAt b i)
    | .andNot => mkAndB (bitAt a i) (mkNotB (bitAt b i))
    | o => .g (.bit o k a b) i) (.c false))
  | .sub a b, i => match a with
    | .lit l => match l with
      | .ofNat n => match lg (Nat.succ n) with
        | some m => cond (leO (ub b) m) (cond (Nat.blt i m) (mkNotB (bitAt b i)) (.c false)) (.g (.sub (.lit (.ofNat n)) b) i)
        | none => .g (.sub (.lit (.ofNat n)) b) i
      | .negSucc n => .g (.sub (.lit (.negSucc n)) b) i
    | a => .g (.sub a b) i
  | e, i => .g e i
theorem blt_not {i n : Nat} (h : Nat.blt i n = false) : n ≤ i := by
  rcases Nat.lt_or_ge i n with h' | h'
  · have : Nat.blt i n = true := by simp [Nat.blt_eq, h']
    rw [this] at h; cases h
  · exact h'
theorem blt_yes {i n : Nat} (h : Nat.blt i n = true) : i < n := by simpa [Nat.blt_eq] using h
theorem bitAt_ok (e : SE) : ∀ i, (bitAt e i).val E = ibit (e.den E) i := by
  induction e <;> intro i <;> try rfl
  case lit n =>
    cases n with
    | negSucc m => rfl
    | ofNat m =>
      show (cond (Nat.beq (Nat.mod (Nat.div m (Nat.pow 2 i)) 2) 1) 1 0 : Int) = ibit (m : Int) i
      rw [ibit_nat, Nat.testBit_eq_decide_div_mod_eq]
      have e1 : Nat.mod (Nat.div m (Nat.pow 2 i)) 2 = m / 2 ^ i % 2 := rfl
      rw [e1]
      by_cases h : m / 2 ^ i % 2 = 1
      · simp [h]
      · have : Nat.beq (m / 2 ^ i % 2) 1 = false := by
          cases hb : Nat.beq (m / 2 ^ i % 2) 1
          · rfl
          · exact absurd (Nat.eq_of_beq_eq_true hb) h
        simp [this, h]
  case sub a b iha ihb =>
    simp only [bitAt]
    split
    · split
      · rename_i n
        cases hl : lg (Nat.succ n) with
        | none => rfl
        | some m =>
          simp only
          have hm : ((n : Nat) : Int) = 2 ^ m - 1 := by
            have := lg_ok hl
            have e2 : ((n + 1 : Nat) : Int) = ((2 ^ m : Nat) : Int) := by exact_mod_cast this
            push_cast at e2
            omega
          cases hle : leO (ub b) m
          · rfl
          · have hr := leO_ok E hle
            simp only [cond, SE.den, Int.ofNat_eq_natCast, hm]
            cases hlt : Nat.blt i m
            · simp only [BF.val, cond]
              exact (ibit_big ⟨by omega, by omega⟩ (blt_not hlt)).symm
            · simp only [mkNotB_val, ihb]
              exact (not_sub hr (blt_yes hlt)).symm
      · rfl
    · rfl
  case shr a n iha _ =>
    simp only [bitAt]
    split
    · split
      · simp only [iha, SE.den, Int.ofNat_eq_natCast, Int.toNat_natCast]
        exact (ibit_shr _ _ _).symm
      · rfl
    · rfl
  case shl a n iha _ =>
    simp only [bitAt]
    split
    · split
      · rename_i m _
        simp only [SE.den, Int.ofNat_eq_natCast, Int.toNat_natCast]
        cases hlt : Nat.blt i m
        · simp only [cond, iha]
          exact (ibit_shl_high _ (blt_not hlt)).symm
        · simp only [cond, BF.val]
          exact (ibit_shl_low _ (blt_yes hlt)).symm
      · rfl
    · rfl
  case md a b ih =>
    simp only [bitAt, SE.den]
    cases hlt : Nat.blt i b
    · simp only [cond, BF.val]
      exact (ibit_big (emod_range _ _) (blt_not hlt)).symm
    · simp only [cond, ih]
      exact (ibit_mod _ (blt_yes hlt)).symm
  case wrap k a ih =>
    simp only [bitAt, SE.den]
    cases hlt : Nat.blt i k.bits
    · cases hs : k.signed
      · simp only [cond, BF.val]
        exact (ibit_wrap_high_u hs _ (blt_not hlt)).symm
      · simp only [cond, ih]
        have := blt_not hlt
        exact (ibit_wrap_high hs _ (by omega)).symm
    · simp only [cond, ih]
      exact (ibit_wrap_low k _ (blt_yes hlt)).symm
  case bit o k a b iha ihb =>
    simp only [bitAt, SE.den]
    cases hs : k.signed
    · simp only [cond]
      cases hlt : Nat.blt i k.bits
      · simp only [BF.val, cond]
        exact (ibit_big (bitsI_range hs _ _) (blt_not hlt)).symm
      · have hi := blt_yes hlt
        simp only
        cases o <;> try rfl
        · simp only [mkAndB_val, iha, ihb]; exact (ibit_and hs _ _ hi).symm
        · simp only [mkOrB_val, iha, ihb]; exact (ibit_or hs _ _ hi).symm
        · simp only [mkXorB_val, iha, ihb]; exact (ibit_xor hs _ _ hi).symm
        · simp only [mkAndB_val, mkNotB_val, iha, ihb]; exact (ibit_andNot hs _ _ hi).symm
    · rfl
  case cat x b r ihx ihr =>
    simp only [bitAt, SE.den]
    cases hlt : Nat.blt i b
    · simp only [cond, ihr]
      exact (ibit_cat_high _ _ (blt_not hlt)).symm
    · simp only [cond, ihx]
      exact (ibit_cat_low _ _ (blt_yes hlt)).symm
def allN (f : Nat → Bool) : Nat → Bool
  | 0 => true
  | n + 1 => cond (f n) (allN f n) false
theorem allN_ok {f : Nat → Bool} : ∀ {n : Nat}, allN f n = true → ∀ i, i < n → f i = true := by
  intro n
  induction n with
  | zero => intro _ i hi; omega
  | succ n ih =>
    intro h i hi
    simp only [allN] at h
    cases hf : f n <;> rw [hf] at h
    · cases h
    · rcases Nat.lt_succ_iff_lt_or_eq.1 hi with h' | rfl
      · exact ih h i h'
      · exact hf
/-- two bits' sum held against a number -/
def twoBits (p q : SE) (n : Nat) (d : BF) : BF := cond (leO (ub p) 1) (cond (leO (ub q) 1) (match n with
  | 0 => d
  | n + 1 => match n with
    | 0 => mkXorB (bitAt p 0) (bitAt q 0)
    | n + 1 => match n with
      | 0 => mkAndB (bitAt p 0) (bitAt q 0)
      | _ => d) d) d
def bitEq (a b : SE) (d : BF) : BF := match a with
  | .wrap k s => match k with
    | .u64 => match s with
      | .add p q => match b with
        | .lit l => match l with
          | .ofNat n => twoBits p q n d
          | .negSucc _ => d
        | _ => d
      | _ => d
    | _ => d
  | _ => d
def bitLt (a b : SE) (d : BF) : BF := match b with
  | .wrap k s => match k with
    | .u64 => match s with
      | .add p q => match a with
        | .lit l => match l with
          | .ofNat n => match n with
            | 0 => cond (leO (ub p) 1) (cond (leO (ub q) 1) (mkOrB (bitAt p 0) (bitAt q 0)) d) d
            | _ => d
          | .negSucc _ => d
        | _ => d
      | _ => d
    | _ => d
  | _ => d
def bitQ (e : SE) (i : Nat) : BF := match e with
  | .eq a b => match i with
    | 0 => bitEq a b (.g (.eq a b) 0)
    | _ + 1 => .c false
  | .lt a b => match i with
    | 0 => bitLt a b (.g (.lt a b) 0)
    | _ + 1 => .c false
  | e => bitAt e i
def bitC : SE → Nat → BF
  | .cat x b r, i => cond (Nat.blt i b) (bitQ x i) (bitC r (Nat.sub i b))
  | e, i => bitQ e i
theorem bit1 {p : SE} (h : leO (ub p) 1 = true) : p.den E = 0 ∨ p.den E = 1 := by
  have := leO_ok E h
  omega
theorem bitAt_one {p : SE} (h : leO (ub p) 1 = true) : (bitAt p 0).val E = p.den E := by
  rw [bitAt_ok, ibit_zero]
  have := bit1 E h
  omega
theorem wrap_two {p q : SE} (hp : leO (ub p) 1 = true) (hq : leO (ub q) 1 = true) : (SE.wrap .u64 (.add p q)).den E = p.den E + q.den E := by
  have h1 := bit1 E hp
  have h2 := bit1 E hq
  simp only [SE.den, wrap_unsigned (k := .u64) rfl]
  apply Int.emod_eq_of_lt (by omega)
  simp only [IntKind.bits]
  omega
theorem bit_bool (x : Int) (h : x = 0 ∨ x = 1) : ibit x 0 = x := by rw [ibit_zero]; omega
theorem den_eq01 (a b : SE) : (SE.eq a b).den E = 0 ∨ (SE.eq a b).den E = 1 := by
  by_cases h : a.den E = b.den E <;> simp [SE.den, h]
theorem den_lt01 (a b : SE) : (SE.lt a b).den E = 0 ∨ (SE.lt a b).den E = 1 := by
  by_cases h : a.den E < b.den E <;> simp [SE.den, h]
theorem bitEq_ok (a b : SE) : (bitEq a b (.g (.eq a b) 0)).val E = ibit ((SE.eq a b).den E) 0 := by
  unfold bitEq
  repeat' split
  all_goals try rfl
  rename_i p q _ _ n
  unfold twoBits
  cases hp : leO (ub p) 1 <;> try rfl
  cases hq : leO (ub q) 1 <;> try rfl
  have h1 := bit1 E hp
  have h2 := bit1 E hq
  simp only [Bool.cond_true]
  repeat' split
  all_goals try rfl
  · rw [bit_bool _ (den_eq01 E _ _), mkXorB_val, bitAt_one E hp, bitAt_one E hq]
    have := wrap_two E hp hq
    show _ = if (SE.wrap .u64 (.add p q)).den E = _ then (1 : Int) else 0
    rw [this]
    simp only [SE.den]
    rcases h1 with h1 | h1 <;> rcases h2 with h2 | h2 <;> rw [h1, h2] <;> rfl
  · rw [bit_bool _ (den_eq01 E _ _), mkAndB_val, bitAt_one E hp, bitAt_one E hq]
    have := wrap_two E hp hq
    show _ = if (SE.wrap .u64 (.add p q)).den E = _ then (1 : Int) else 0
    rw [this]
    simp only [SE.den]
    rcases h1 with h1 | h1 <;> rcases h2 with h2 | h2 <;> rw [h1, h2] <;> rfl
theorem bitLt_ok (a b : SE) : (bitLt a b (.g (.lt a b) 0)).val E = ibit ((SE.lt a b).den E) 0 := by
  unfold bitLt
  repeat' split
  all_goals try rfl
  rename_i p q _ _ _
  cases hp : leO (ub p) 1 <;> try rfl
  cases hq : leO (ub q) 1 <;> try rfl
  have h1 := bit1 E hp
  have h2 := bit1 E hq
  simp only [Bool.cond_true]
  rw [bit_bool _ (den_lt01 E _ _), mkOrB_val, bitAt_one E hp, bitAt_one E hq]
  have := wrap_two E hp hq
  show _ = if _ < (SE.wrap .u64 (.add p q)).den E then (1 : Int) else 0
  rw [this]
  simp only [SE.den]
  rcases h1 with h1 | h1 <;> rcases h2 with h2 | h2 <;> rw [h1, h2] <;> rfl
theorem bitQ_ok (e : SE) (i : Nat) : (bitQ e i).val E = ibit (e.den E) i := by
  unfold bitQ
  split
  · split
    · exact bitEq_ok E _ _
    · refine (ibit_big (n := 1) ?_ (by omega)).symm
      simp only [SE.den]; split <;> simp
  · split
    · exact bitLt_ok E _ _
    · refine (ibit_big (n := 1) ?_ (by omega)).symm
      simp only [SE.den]; split <;> simp
  · exact bitAt_ok E _ _
theorem bitC_ok (e : SE) : ∀ i, (bitC e i).val E = ibit (e.den E) i := by
  induction e <;> intro i <;> try exact bitQ_ok E _ i
  case cat x b r _ ihr =>
    simp only [bitC, SE.den]
    cases hlt : Nat.blt i b
    · simp only [cond, ihr]
      exact (ibit_cat_high _ _ (blt_not hlt)).symm
    · simp only [cond, bitQ_ok]
      exact (ibit_cat_low _ _ (blt_yes hlt)).symm
/-- are two expressions below 2^n the same, bit by bit? -/
def sameBits (n : Nat) (a b : SE) : Bool := cond (leO (ub a) n) (cond (leO (ub b) n) (allN (fun i => BF.beq (bitC a i) (bitC b i)) n) false) false
theorem sameBits_ok {n : Nat} {a b : SE} (h : sameBits n a b = true) : a.den E = b.den E := by
  unfold sameBits at h
  cases h1 : leO (ub a) n <;> rw [h1] at h <;> try (cases h; done)
  cases h2 : leO (ub b) n <;> rw [h2] at h <;> try (cases h; done)
  refine eq_of_bits n (leO_ok E h1) (leO_ok E h2) fun i hi => ?_
  rw [← bitC_ok, ← bitC_ok, BF.beq_eq (allN_ok h i hi)]

end Sx
end Go.Proofs.YtfdggebddcoeeaaGreatDoor

/-
  The program's and the reference's Signed: a number's lowest bits read with a sign; runs of leaf functions at variables.
-/
set_option maxRecDepth 100000
noncomputable section
namespace Go.Proofs.YtfdggebddcoeeaaGreatDoor
namespace Sx
open Go Go.RowKit

def sums0 : Tr Sm := (((Tr.lf.set 35 smShaped).set 184 smIdx).set 223 smCnt)
theorem sums0_ok {E : Env} {G : Gl} : SumsOk E Tryz.prog G sums0 := by
  intro f s h
  unfold sums0 at h
  rcases Tr.get_set h with ⟨rfl, rfl⟩ | ⟨_, h⟩
  · exact cnt_ok
  rcases Tr.get_set h with ⟨rfl, rfl⟩ | ⟨_, h⟩
  · exact idx_ok
  rcases Tr.get_set h with ⟨rfl, rfl⟩ | ⟨_, h⟩
  · exact shaped_ok
  · cases h
/-- no package-level variable; these expressions are known -/
def Gz (keys : List (SE × SE)) : Gl := ⟨fun _ => .lf, keys, []⟩
def loc0 : Nat → Nat × Nat := fun _ => (0, 0)
def runV (sums : Tr Sm) (keys : List (SE × SE)) (f : FuncId) (args : List SV) : R := call Tryz.prog (Gz keys) sums 60 f args .lf 0
theorem leafS_cx {E : Env} {sums : Tr Sm} {f : FuncId} {args : List SV} {keys : List (SE × SE)} (hS : SumsOk E Tryz.prog (Gz keys) sums) {sv : SV} {h : Tr SBlk} {k : Nat} (he : runV sums keys f args = some (sv, h, k)) (hk : ∀ p ∈ keys, p.1.den E = p.2.den E) (hw : wfL E 0 args) (w : World) :
    CX Tryz.prog f (denL E loc0 args).toArray w (fun u w' => (∃ loc', u = sv.den E loc') ∧ Below w.heap.size w w' ∧ sv.wf E k) := by
  unfold runV at he
  refine cx_mono (eval_ok okP mixed hS 60 f args .lf 0 sv h k he loc0 w (hrel_lf _ _ _) ⟨⟨hk, fun s hs => by cases hs⟩, fun g i v hv => by cases hv⟩ hw) fun v w' hv => ?_
  obtain ⟨loc', h1, h2⟩ := hv
  exact ⟨⟨loc', h1⟩, h2.bel, h2.wf⟩
def vars2 (x y : Int) : Env := ⟨fun _ _ => 0, fun _ _ _ => 0, fun i => Nat.rec x (fun _ _ => y) i⟩
theorem va0 (x y : Int) : (vars2 x y).va 0 = x := rfl
theorem va1 (x y : Int) : (vars2 x y).va 1 = y := rfl
def numL (n : Nat) : SV := .int .i64 (.lit (.ofNat n))
theorem in_bits {n : Nat} (hn : n < 100) : inR .i64 (n : Int) := by simp [inR, IntKind.min, IntKind.max, IntKind.signed, IntKind.bits]; omega

theorem eq_of_bits_i64 {x y : Int} (hx : inR .i64 x) (hy : inR .i64 y) (h : ∀ i, i < 64 → ibit x i = ibit y i) : x = y := by
  have h1 : x % 2 ^ 64 = y % 2 ^ 64 := eq_of_bits 64 (emod_range _ _) (emod_range _ _) fun i hi => by rw [ibit_mod _ hi, ibit_mod _ hi, h i hi]
  simp [inR, IntKind.min, IntKind.max, IntKind.signed, IntKind.bits] at hx hy
  omega
def kindS (n : Nat) : IntKind := cond (Nat.beq n 8) .i8 (cond (Nat.beq n 16) .i16 (cond (Nat.beq n 32) .i32 .i64))
theorem wrap_in (n : Nat) (x : Int) : inR .i64 ((kindS n).wrap x) := by
  unfold kindS
  cases Nat.beq n 8 <;> cases Nat.beq n 16 <;> cases Nat.beq n 32 <;> simp [IntKind.wrap, inR, IntKind.min, IntKind.max, IntKind.signed, IntKind.bits] <;> omega
def LeafS (f : FuncId) (n : Nat) : Prop := ∀ x : Int, inR .u64 x → ∀ w, CX Tryz.prog f #[.int .i64 n, .int .u64 x] w (fun u w' => u = .int .i64 ((kindS n).wrap x) ∧ Below w.heap.size w w')
def isI (r : R) (e : SE) : Bool := match r with
  | some (v, _, _) => match v with
    | .int k x => cond (decide (k = .i64)) (SE.beq x e) false
    | _ => false
  | none => false
theorem isI_ok {r : R} {e : SE} (h : isI r e = true) : ∃ hp k, r = some (.int .i64 e, hp, k) := by
  unfold isI at h
  repeat' (split at h)
  all_goals first
    | (cases h; done)
    | (rename_i k x
       cases h1 : decide (k = IntKind.i64) <;> rw [h1] at h <;> try (cases h; done)
       rw [of_decide_eq_true h1, SE.beq_eq h]
       exact ⟨_, _, rfl⟩)
def argsS (n : Nat) : List SV := [numL n, .int .u64 (.var 0)]
theorem leafS_of {f n : Nat} (hn : n < 100) {e : SE} (h : isI (runV sums0 [] f (argsS n)) e = true) (hd : ∀ x, inR .u64 x → inR .i64 (e.den (vars2 x 0)) → e.den (vars2 x 0) = (kindS n).wrap x) : LeafS f n := by
  intro x hx w
  obtain ⟨hp, k, he⟩ := isI_ok h
  refine cx_mono (leafS_cx (E := vars2 x 0) sums0_ok he (fun p hp => by cases hp) ⟨in_bits hn, hx, trivial⟩ w) fun v w' hv => ?_
  obtain ⟨⟨loc', h1⟩, h2, h3⟩ := hv
  have h4 := hd x hx h3
  exact ⟨by rw [h1, ← h4]; rfl, h2⟩
theorem signed_bits {n : Nat} {e : SE} (h : allN (fun i => BF.beq (bitAt e i) (bitAt (.wrap (kindS n) (.var 0)) i)) 64 = true) (x : Int) (_ : inR .u64 x) (hi : inR .i64 (e.den (vars2 x 0))) : e.den (vars2 x 0) = (kindS n).wrap x := by
  refine eq_of_bits_i64 hi (wrap_in n x) fun i h64 => ?_
  have h1 := BF.beq_eq (allN_ok h i h64)
  rw [← bitAt_ok, h1, bitAt_ok]
  rfl
theorem signed83_8 : LeafS 83 8 := leafS_of (e := (.shr (.wrap .i64 (.wrap .u64 (.shl (.var 0) (.lit 56)))) (.lit 56))) (by decide) (by kernel_rfl) (signed_bits (by kernel_rfl))
theorem signed109_8 : LeafS 109 8 := leafS_of (e := (.ite (.eq (.shr (.md (.var 0) 8) (.lit 7)) (.lit 1)) (.wrap .i64 (.sub (.wrap .i64 (.sub (.lit 0) (.wrap .i64 (.wrap .u64 (.sub (.md (.wrap .u64 (.sub (.lit 0) (.md (.var 0) 8))) 8) (.lit 1)))))) (.lit 1))) (.md (.var 0) 8))) (by decide) (by kernel_rfl) fun x hx _ => by
  simp [inR, IntKind.min, IntKind.max, IntKind.signed, IntKind.bits] at hx
  have hk : kindS 8 = .i8 := rfl
  simp only [SE.den, va0, hk, IntKind.wrap, IntKind.bits, IntKind.signed, Bool.true_and, Bool.false_and, decide_eq_true_eq, ge_iff_le]
  simp only [Int.reducePow, Int.reduceToNat, Nat.reduceSub, Bool.false_eq_true, if_false]
  omega
theorem signed83_16 : LeafS 83 16 := leafS_of (e := (.shr (.wrap .i64 (.wrap .u64 (.shl (.var 0) (.lit 48)))) (.lit 48))) (by decide) (by kernel_rfl) (signed_bits (by kernel_rfl))
theorem signed109_16 : LeafS 109 16 := leafS_of (e := (.ite (.eq (.shr (.md (.var 0) 16) (.lit 15)) (.lit 1)) (.wrap .i64 (.sub (.wrap .i64 (.sub (.lit 0) (.wrap .i64 (.wrap .u64 (.sub (.md (.wrap .u64 (.sub (.lit 0) (.md (.var 0) 16))) 16) (.lit 1)))))) (.lit 1))) (.md (.var 0) 16))) (by decide) (by kernel_rfl) fun x hx _ => by
  simp [inR, IntKind.min, IntKind.max, IntKind.signed, IntKind.bits] at hx
  have hk : kindS 16 = .i16 := rfl
  simp only [SE.den, va0, hk, IntKind.wrap, IntKind.bits, IntKind.signed, Bool.true_and, Bool.false_and, decide_eq_true_eq, ge_iff_le]
  simp only [Int.reducePow, Int.reduceToNat, Nat.reduceSub, Bool.false_eq_true, if_false]
  omega
theorem signed83_32 : LeafS 83 32 := leafS_of (e := (.shr (.wrap .i64 (.wrap .u64 (.shl (.var 0) (.lit 32)))) (.lit 32))) (by decide) (by kernel_rfl) (signed_bits (by kernel_rfl))
theorem signed109_32 : LeafS 109 32 := leafS_of (e := (.ite (.eq (.shr (.md (.var 0) 32) (.lit 31)) (.lit 1)) (.wrap .i64 (.sub (.wrap .i64 (.sub (.lit 0) (.wrap .i64 (.wrap .u64 (.sub (.md (.wrap .u64 (.sub (.lit 0) (.md (.var 0) 32))) 32) (.lit 1)))))) (.lit 1))) (.md (.var 0) 32))) (by decide) (by kernel_rfl) fun x hx _ => by
  simp [inR, IntKind.min, IntKind.max, IntKind.signed, IntKind.bits] at hx
  have hk : kindS 32 = .i32 := rfl
  simp only [SE.den, va0, hk, IntKind.wrap, IntKind.bits, IntKind.signed, Bool.true_and, Bool.false_and, decide_eq_true_eq, ge_iff_le]
  simp only [Int.reducePow, Int.reduceToNat, Nat.reduceSub, Bool.false_eq_true, if_false]
  omega
theorem signed83_64 : LeafS 83 64 := leafS_of (e := (.wrap .i64 (.wrap .u64 (.var 0)))) (by decide) (by kernel_rfl) (signed_bits (by kernel_rfl))
theorem signed109_64 : LeafS 109 64 := leafS_of (e := (.ite (.eq (.md (.shr (.var 0) (.lit 63)) 1) (.lit 1)) (.wrap .i64 (.sub (.wrap .i64 (.sub (.lit 0) (.wrap .i64 (.wrap .u64 (.sub (.wrap .u64 (.sub (.lit 0) (.var 0))) (.lit 1)))))) (.lit 1))) (.wrap .i64 (.var 0)))) (by decide) (by kernel_rfl) fun x hx _ => by
  simp [inR, IntKind.min, IntKind.max, IntKind.signed, IntKind.bits] at hx
  have hk : kindS 64 = .i64 := rfl
  simp only [SE.den, va0, hk, IntKind.wrap, IntKind.bits, IntKind.signed, Bool.true_and, Bool.false_and, decide_eq_true_eq, ge_iff_le]
  simp only [Int.reducePow, Int.reduceToNat, Nat.reduceSub, Bool.false_eq_true, if_false]
  omega
def sizes : List Nat := [8, 16, 32, 64]
def memN : List Nat → Nat → Bool
  | [], _ => false
  | a :: t, n => cond (Nat.beq a n) true (memN t n)
theorem memN_ok : ∀ {l : List Nat} {n : Nat}, memN l n = true → n ∈ l := by
  intro l
  induction l with
  | nil => intro n h; cases h
  | cons a l ih =>
    intro n h
    simp only [memN] at h
    cases h1 : Nat.beq a n <;> rw [h1] at h
    · exact List.mem_cons_of_mem _ (ih h)
    · rw [Nat.eq_of_beq_eq_true h1]; exact List.mem_cons_self
def isLit : SE → Bool
  | .lit _ => true
  | _ => false
def smSg : Sm := fun a hp nx => match a with
  | [.int .i64 (.lit (.ofNat n)), .int .u64 a] => cond (memN sizes n) (cond (isLit a) none (some (.int .i64 (.wrap (kindS n) a), hp, nx))) none
  | _ => none
theorem smSg_ok {E : Env} {G : Gl} {f : FuncId} (h : ∀ n ∈ sizes, LeafS f n) : SmOk E Tryz.prog G f smSg := by
  intro args hp nx v hp' nx' hv loc w hr hg hw
  unfold smSg at hv
  split at hv
  · rename_i n a
    cases h1 : memN sizes n <;> rw [h1] at hv <;> try (cases hv; done)
    cases h2 : isLit a <;> rw [h2] at hv <;> cases hv
    obtain ⟨_, wa, _⟩ := hw
    refine cx_mono (h n (memN_ok h1) _ wa w) fun u w' ⟨e1, e2⟩ => ⟨loc, ?_, step_of_below hr e2 (wrap_in n _)⟩
    rw [e1]
    rfl
  · cases hv
theorem all_sizes {p : Nat → Prop} (h8 : p 8) (h16 : p 16) (h32 : p 32) (h64 : p 64) : ∀ n ∈ sizes, p n := by
  intro n h
  simp only [sizes, List.mem_cons, List.not_mem_nil, or_false] at h
  rcases h with rfl | rfl | rfl | rfl
  · exact h8
  · exact h16
  · exact h32
  · exact h64
/-- with Signed known -/
def sums1 : Tr Sm := (sums0.set 83 smSg).set 109 smSg
theorem sums1_ok {E : Env} {G : Gl} : SumsOk E Tryz.prog G sums1 := by
  intro f s h
  unfold sums1 at h
  rcases Tr.get_set h with ⟨rfl, rfl⟩ | ⟨_, h⟩
  · exact smSg_ok (all_sizes signed109_8 signed109_16 signed109_32 signed109_64)
  rcases Tr.get_set h with ⟨rfl, rfl⟩ | ⟨_, h⟩
  · exact smSg_ok (all_sizes signed83_8 signed83_16 signed83_32 signed83_64)
  · exact sums0_ok f s h

end Sx
end Go.Proofs.YtfdggebddcoeeaaGreatDoor
end

/-
  Leaf functions of whole numbers: run by the evaluator at variables; a name for what each comes to.
-/
set_option maxRecDepth 100000
noncomputable section
namespace Go.Proofs.YtfdggebddcoeeaaGreatDoor
namespace Sx
open Go Go.RowKit

def run0 (keys : List (SE × SE)) (f : FuncId) (args : List SV) : R := runV sums1 keys f args
theorem leaf_cx {f : FuncId} {args : List SV} {keys : List (SE × SE)} {sv : SV} {h : Tr SBlk} {k : Nat} (he : run0 keys f args = some (sv, h, k)) (E : Env) (hk : ∀ p ∈ keys, p.1.den E = p.2.den E) (hw : wfL E 0 args) (w : World) :
    CX Tryz.prog f (denL E loc0 args).toArray w (fun u w' => (∃ loc', u = sv.den E loc') ∧ Below w.heap.size w w' ∧ sv.wf E k) := leafS_cx (E := E) sums1_ok he hk hw w

/-! names -/
def numE (r : R) : SE := match r with
  | some (v, _, _) => match v with
    | .tup l => match l with
      | x :: _ => match x with
        | .int _ e => e
        | .bool e => e
        | _ => .lit 0
      | [] => .lit 0
    | _ => .lit 0
  | none => .lit 0
/-- a number of so many bits, and no error -/
def fineN (n : Nat) (r : R) : Bool := match r with
  | some (v, _, _) => match v with
    | .tup l => match l with
      | [x, y] => match x with
        | .int k e => match y with
          | .int j z => match z with
            | .lit z => cond (int0 z) (cond (decide (k = .u64)) (cond (decide (j = .i64)) (leO (ub e) n) false) false) false
            | _ => false
          | _ => false
        | _ => false
      | _ => false
    | _ => false
  | none => false
/-- yes or no, and no error -/
def fineB (r : R) : Bool := match r with
  | some (v, _, _) => match v with
    | .tup l => match l with
      | [x, y] => match x with
        | .bool e => match y with
          | .int j z => match z with
            | .lit z => cond (int0 z) (cond (decide (j = .i64)) (isB e) false) false
            | _ => false
          | _ => false
        | _ => false
      | _ => false
    | _ => false
  | none => false
theorem fineN_ok {n : Nat} {r : R} (h : fineN n r = true) : ∃ hp k, r = some (.tup [.int .u64 (numE r), .int .i64 (.lit 0)], hp, k) ∧ leO (ub (numE r)) n = true := by
  unfold fineN at h
  repeat' (split at h)
  all_goals first
    | (cases h; done)
    | (rename_i z
       cases h1 : int0 z <;> rw [h1] at h <;> try (cases h; done)
       rename_i k _ _ j _
       simp only [Bool.cond_true] at h
       cases h2 : decide (k = IntKind.u64) <;> rw [h2] at h <;> try (cases h; done)
       cases h3 : decide (j = IntKind.i64) <;> rw [h3] at h <;> try (cases h; done)
       rw [of_decide_eq_true h2, of_decide_eq_true h3, (int0_iff z).1 h1]
       exact ⟨_, _, rfl, h⟩)
theorem fineN_mono {n m : Nat} (hm : n ≤ m) {r : R} (h : fineN n r = true) : fineN m r = true := by
  obtain ⟨hp, k, e, hb⟩ := fineN_ok h
  have hle : leO (ub (numE r)) m = true := by
    unfold leO at hb ⊢
    split at hb
    · exact Nat.ble_eq_true_of_le (Nat.le_trans (Nat.le_of_ble_eq_true hb) hm)
    · cases hb
  generalize numE r = x at *
  subst e
  simp only [fineN, int0, Nat.beq_refl, decide_true, Bool.cond_true]
  exact hle
theorem fineB_ok {r : R} (h : fineB r = true) : ∃ hp k, r = some (.tup [.bool (numE r), .int .i64 (.lit 0)], hp, k) ∧ isB (numE r) = true := by
  unfold fineB at h
  repeat' (split at h)
  all_goals first
    | (cases h; done)
    | (rename_i z
       cases h1 : int0 z <;> rw [h1] at h <;> try (cases h; done)
       rename_i j _
       simp only [Bool.cond_true] at h
       cases h3 : decide (j = IntKind.i64) <;> rw [h3] at h <;> try (cases h; done)
       rw [of_decide_eq_true h3, (int0_iff z).1 h1]
       exact ⟨_, _, rfl, h⟩)
/-- a number of 64 bits -/
def numU (i : Nat) : SV := .int .u64 (.md (.var i) 64)
def args2 (n op : Nat) : List SV := [numL n, numL op, numU 0, numU 1]
def args1 (n op : Nat) : List SV := [numL n, numL op, numU 0]
/-- the second number's rest by n, one by one -/
def keyK (n k : Nat) : List (SE × SE) := [(.md (.var 1) (Nat.log2 n), .lit (.ofNat k))]
def isSh (op : Nat) : Bool := and (Nat.ble 11 op) (Nat.ble op 13)
def keyB (n op : Nat) (y : Int) : List (SE × SE) := cond (isSh op) (keyK n (y % 2 ^ Nat.log2 n).toNat) []
/-- what a function of two numbers comes to: ints.Bin, ints.Rel -/
def F2 (c : Nat) (x y : Int) : Int :=
  if c / 10000 = 1 then (numE (run0 (keyB (c % 100) (c / 100 % 100) y) 63 (args2 (c % 100) (c / 100 % 100)))).den (vars2 x y)
  else if c / 10000 = 2 then (numE (run0 [] 106 (args2 (c % 100) (c / 100 % 100)))).den (vars2 x y)
  else 0
/-- a byte, one by one -/
def keyC (k : Nat) : List (SE × SE) := [(.md (.var 0) 8, .lit (.ofNat k))]
def isPc (op : Nat) : Bool := Nat.beq op 3
def keyU (op : Nat) (x : Int) : List (SE × SE) := cond (isPc op) (keyC (x % 2 ^ 8).toNat) []
/-- of one: ints.Un -/
def F1 (c : Nat) (x : Int) : Int := if c / 10000 = 3 then (numE (run0 (keyU (c / 100 % 100) x) 97 (args1 (c % 100) (c / 100 % 100)))).den (vars2 x 0) else 0
def EE (va : Nat → Int) : Env := ⟨F1, F2, va⟩
def codeB (n op : Nat) : Nat := (100 + op) * 100 + n
def codeR (n op : Nat) : Nat := (200 + op) * 100 + n
def codeU (n op : Nat) : Nat := (300 + op) * 100 + n
theorem F2_bin {n op : Nat} (hn : n < 100) (ho : op < 100) (x y : Int) : F2 (codeB n op) x y = (numE (run0 (keyB n op y) 63 (args2 n op))).den (vars2 x y) := by
  have e1 : codeB n op / 10000 = 1 := by unfold codeB; omega
  have e2 : codeB n op % 100 = n := by unfold codeB; omega
  have e3 : codeB n op / 100 % 100 = op := by unfold codeB; omega
  unfold F2
  rw [if_pos e1, e2, e3]
theorem F2_rel {n op : Nat} (hn : n < 100) (ho : op < 100) (x y : Int) : F2 (codeR n op) x y = (numE (run0 [] 106 (args2 n op))).den (vars2 x y) := by
  have e1 : codeR n op / 10000 = 2 := by unfold codeR; omega
  have e2 : codeR n op % 100 = n := by unfold codeR; omega
  have e3 : codeR n op / 100 % 100 = op := by unfold codeR; omega
  unfold F2
  rw [if_neg (by omega), if_pos e1, e2, e3]
theorem F1_un {n op : Nat} (hn : n < 100) (ho : op < 100) (x : Int) : F1 (codeU n op) x = (numE (run0 (keyU op x) 97 (args1 n op))).den (vars2 x 0) := by
  have e1 : codeU n op / 10000 = 3 := by unfold codeU; omega
  have e2 : codeU n op % 100 = n := by unfold codeU; omega
  have e3 : codeU n op / 100 % 100 = op := by unfold codeU; omega
  unfold F1
  rw [if_pos e1, e2, e3]

/-! what a leaf does -/
def LeafB (f : FuncId) (n op : Nat) : Prop := ∀ x y : Int, inR .u64 x → inR .u64 y → ∀ w, CX Tryz.prog f #[.int .i64 n, .int .i64 op, .int .u64 x, .int .u64 y] w (fun u w' => u = .tuple #[.int .u64 (F2 (codeB n op) x y % 2 ^ n), .int .i64 0] ∧ Below w.heap.size w w')
def LeafR (f : FuncId) (n op : Nat) : Prop := ∀ x y : Int, inR .u64 x → inR .u64 y → ∀ w, CX Tryz.prog f #[.int .i64 n, .int .i64 op, .int .u64 x, .int .u64 y] w (fun u w' => u = .tuple #[.bool (decide (F2 (codeR n op) x y % 2 ^ n ≠ 0)), .int .i64 0] ∧ Below w.heap.size w w')
def LeafU (f : FuncId) (n op : Nat) : Prop := ∀ x : Int, inR .u64 x → ∀ w, CX Tryz.prog f #[.int .i64 n, .int .i64 op, .int .u64 x] w (fun u w' => u = .tuple #[.int .u64 (F1 (codeU n op) x % 2 ^ n), .int .i64 0] ∧ Below w.heap.size w w')
theorem u64_id {x : Int} (h : inR .u64 x) : x % 2 ^ 64 = x := emod_small (inR_unsigned (k := .u64) rfl h)
theorem u64_md (x : Int) : inR .u64 (x % 2 ^ 64) := by
  have := emod_range x 64
  simp [inR, IntKind.min, IntKind.max, IntKind.signed, IntKind.bits] at *
  omega
theorem wf2 {n op : Nat} (hn : n < 100) (ho : op < 100) {E : Env} : wfL E 0 (args2 n op) := ⟨in_bits hn, in_bits ho, u64_md _, u64_md _, trivial⟩
theorem wf1 {n op : Nat} (hn : n < 100) (ho : op < 100) {E : Env} : wfL E 0 (args1 n op) := ⟨in_bits hn, in_bits ho, u64_md _, trivial⟩
theorem den2 (n op : Nat) {E : Env} {x y : Int} (e0 : E.va 0 = x) (e1 : E.va 1 = y) (hx : inR .u64 x) (hy : inR .u64 y) : (denL E loc0 (args2 n op)).toArray = #[.int .i64 n, .int .i64 op, .int .u64 x, .int .u64 y] := by
  show #[Value.int .i64 (n : Int), .int .i64 (op : Int), .int .u64 (E.va 0 % 2 ^ 64), .int .u64 (E.va 1 % 2 ^ 64)] = _
  rw [e0, e1, u64_id hx, u64_id hy]
theorem den1 (n op : Nat) {E : Env} {x : Int} (e0 : E.va 0 = x) (hx : inR .u64 x) : (denL E loc0 (args1 n op)).toArray = #[.int .i64 n, .int .i64 op, .int .u64 x] := by
  show #[Value.int .i64 (n : Int), .int .i64 (op : Int), .int .u64 (E.va 0 % 2 ^ 64)] = _
  rw [e0, u64_id hx]
theorem bnd_ok {n : Nat} {e : SE} {E : Env} (h : leO (ub e) n = true) (_ : inR .u64 (e.den E)) : e.den E % 2 ^ n = e.den E := emod_small (leO_ok E h)
/-- a run of two numbers that ends in a number, at keys that hold -/
theorem run_num {f n op m : Nat} (hn : n < 100) (ho : op < 100) {keys : List (SE × SE)} {r : R} (hr : run0 keys f (args2 n op) = r) (hf : fineN m r = true) {x y : Int} (hx : inR .u64 x) (hy : inR .u64 y) (hk : ∀ p ∈ keys, p.1.den (vars2 x y) = p.2.den (vars2 x y)) (w : World) :
    CX Tryz.prog f #[.int .i64 n, .int .i64 op, .int .u64 x, .int .u64 y] w (fun u w' => u = .tuple #[.int .u64 ((numE r).den (vars2 x y)), .int .i64 0] ∧ Below w.heap.size w w' ∧ inR .u64 ((numE r).den (vars2 x y)) ∧ (numE r).den (vars2 x y) % 2 ^ m = (numE r).den (vars2 x y)) := by
  obtain ⟨hp, k, e, hb⟩ := fineN_ok hf
  have hc := leaf_cx (hr.trans e) (vars2 x y) hk (wf2 hn ho) w
  rw [den2 n op rfl rfl hx hy] at hc
  refine cx_mono hc fun v w' h => ?_
  obtain ⟨⟨loc', h1⟩, h2, h3, _⟩ := h
  exact ⟨h1, h2, h3, bnd_ok hb h3⟩
theorem run_bool {f n op : Nat} (hn : n < 100) (ho : op < 100) {r : R} (hr : run0 [] f (args2 n op) = r) (hf : fineB r = true) {x y : Int} (hx : inR .u64 x) (hy : inR .u64 y) (w : World) :
    CX Tryz.prog f #[.int .i64 n, .int .i64 op, .int .u64 x, .int .u64 y] w (fun u w' => u = .tuple #[.bool (decide ((numE r).den (vars2 x y) ≠ 0)), .int .i64 0] ∧ Below w.heap.size w w') := by
  obtain ⟨hp, k, e, _⟩ := fineB_ok hf
  have hc := leaf_cx (hr.trans e) (vars2 x y) (fun p hp => by cases hp) (wf2 hn ho) w
  rw [den2 n op rfl rfl hx hy] at hc
  refine cx_mono hc fun v w' h => ?_
  obtain ⟨⟨loc', h1⟩, h2, _⟩ := h
  exact ⟨h1, h2⟩
theorem run_one {f n op m : Nat} (hn : n < 100) (ho : op < 100) {keys : List (SE × SE)} {r : R} (hr : run0 keys f (args1 n op) = r) (hf : fineN m r = true) {x : Int} (hx : inR .u64 x) (hk : ∀ p ∈ keys, p.1.den (vars2 x 0) = p.2.den (vars2 x 0)) (w : World) :
    CX Tryz.prog f #[.int .i64 n, .int .i64 op, .int .u64 x] w (fun u w' => u = .tuple #[.int .u64 ((numE r).den (vars2 x 0)), .int .i64 0] ∧ Below w.heap.size w w' ∧ inR .u64 ((numE r).den (vars2 x 0)) ∧ (numE r).den (vars2 x 0) % 2 ^ m = (numE r).den (vars2 x 0)) := by
  obtain ⟨hp, k, e, hb⟩ := fineN_ok hf
  have hc := leaf_cx (hr.trans e) (vars2 x 0) hk (wf1 hn ho) w
  rw [den1 n op rfl hx] at hc
  refine cx_mono hc fun v w' h => ?_
  obtain ⟨⟨loc', h1⟩, h2, h3, _⟩ := h
  exact ⟨h1, h2, h3, bnd_ok hb h3⟩

/-! two functions that come to the same -/
def sameE (n : Nat) (a b : SE) : Bool := cond (SE.beq a b) true (sameBits n a b)
theorem sameE_ok {n : Nat} {a b : SE} (h : sameE n a b = true) (E : Env) : a.den E = b.den E := by
  unfold sameE at h
  cases h1 : SE.beq a b <;> rw [h1] at h
  · exact sameBits_ok E h
  · rw [SE.beq_eq h1]
/-- is a result the same as the other one's? -/
def agreeN (n : Nat) (r s : R) : Bool := cond (fineN 64 r) (cond (fineN n s) (sameE n (numE r) (numE s)) false) false
def agreeB (r s : R) : Bool := cond (fineB r) (cond (fineB s) (SE.beq (numE r) (numE s)) false) false
/-- are these two expressions what they come to? -/
def twoN (n : Nat) (r s : R) (a b : SE) : Bool := cond (fineN 64 r) (cond (fineN n s) (cond (SE.beq (numE r) a) (SE.beq (numE s) b) false) false) false
theorem agreeN_ok {n : Nat} {r s : R} (h : agreeN n r s = true) : fineN 64 r = true ∧ fineN n s = true ∧ ∀ E, (numE r).den E = (numE s).den E := by
  unfold agreeN at h
  cases h1 : fineN 64 r <;> rw [h1] at h <;> try (cases h; done)
  cases h2 : fineN n s <;> rw [h2] at h <;> try (cases h; done)
  exact ⟨rfl, rfl, sameE_ok h⟩
theorem agreeB_ok {r s : R} (h : agreeB r s = true) : fineB r = true ∧ fineB s = true ∧ ∀ E, (numE r).den E = (numE s).den E := by
  unfold agreeB at h
  cases h1 : fineB r <;> rw [h1] at h <;> try (cases h; done)
  cases h2 : fineB s <;> rw [h2] at h <;> try (cases h; done)
  exact ⟨rfl, rfl, fun E => by rw [SE.beq_eq h]⟩
theorem twoN_ok {n : Nat} {r s : R} {a b : SE} (h : twoN n r s a b = true) : fineN 64 r = true ∧ fineN n s = true ∧ numE r = a ∧ numE s = b := by
  unfold twoN at h
  cases h1 : fineN 64 r <;> rw [h1] at h <;> try (cases h; done)
  cases h2 : fineN n s <;> rw [h2] at h <;> try (cases h; done)
  cases h3 : SE.beq (numE r) a <;> rw [h3] at h <;> try (cases h; done)
  exact ⟨rfl, rfl, SE.beq_eq h3, SE.beq_eq h⟩
/-- the program's function and another one -/
theorem leafB_both {f n op : Nat} (hn : n < 100) (ho : op < 100) (hs : isSh op = false) (h1 : fineN 64 (run0 [] f (args2 n op)) = true) (h2 : fineN n (run0 [] 63 (args2 n op)) = true)
    (h3 : ∀ x y, inR .u64 x → inR .u64 y → (numE (run0 [] f (args2 n op))).den (vars2 x y) = (numE (run0 [] 63 (args2 n op))).den (vars2 x y)) : LeafB f n op ∧ LeafB 63 n op := by
  have h63 : LeafB 63 n op := fun x y hx hy w => by
    refine cx_mono (run_num hn ho rfl h2 hx hy (fun p hp => by cases hp) w) fun v w' ⟨e1, e2, e3, e4⟩ => ⟨?_, e2⟩
    rw [e1, F2_bin hn ho, keyB, hs, Bool.cond_false, e4]
  refine ⟨fun x y hx hy w => ?_, h63⟩
  refine cx_mono (run_num hn ho rfl h1 hx hy (fun p hp => by cases hp) w) fun v w' ⟨e1, e2, e3, e4⟩ => ⟨?_, e2⟩
  obtain ⟨_, _, _, hb⟩ := fineN_ok h2
  rw [e1, F2_bin hn ho, keyB, hs, Bool.cond_false]
  rw [h3 x y hx hy] at e3 ⊢
  rw [bnd_ok hb e3]
theorem leafB_agree {f n op : Nat} (hn : n < 100) (ho : op < 100) (hs : isSh op = false) (h : agreeN n (run0 [] f (args2 n op)) (run0 [] 63 (args2 n op)) = true) : LeafB f n op ∧ LeafB 63 n op := by
  obtain ⟨h1, h2, h3⟩ := agreeN_ok h
  exact leafB_both hn ho hs h1 h2 fun x y _ _ => h3 _
theorem leafB_two {f n op : Nat} (hn : n < 100) (ho : op < 100) (hs : isSh op = false) {a b : SE} (h : twoN n (run0 [] f (args2 n op)) (run0 [] 63 (args2 n op)) a b = true) (hd : ∀ x y, inR .u64 x → inR .u64 y → a.den (vars2 x y) = b.den (vars2 x y)) : LeafB f n op ∧ LeafB 63 n op := by
  obtain ⟨h1, h2, h3, h4⟩ := twoN_ok h
  exact leafB_both hn ho hs h1 h2 fun x y hx hy => by rw [h3, h4]; exact hd x y hx hy
theorem leafR_agree {f n op : Nat} (hn : n < 100) (hp : 0 < n) (ho : op < 100) (h : agreeB (run0 [] f (args2 n op)) (run0 [] 106 (args2 n op)) = true) : LeafR f n op ∧ LeafR 106 n op := by
  obtain ⟨h1, h2, h3⟩ := agreeB_ok h
  have both : ∀ g, fineB (run0 [] g (args2 n op)) = true → (∀ E, (numE (run0 [] g (args2 n op))).den E = (numE (run0 [] 106 (args2 n op))).den E) → LeafR g n op := by
    intro g hg he x y hx hy w
    refine cx_mono (run_bool hn ho rfl hg hx hy w) fun v w' ⟨e1, e2⟩ => ⟨?_, e2⟩
    obtain ⟨_, _, _, hl⟩ := fineB_ok h2
    have hb := isB_ok (vars2 x y) hl
    have : (1 : Int) < 2 ^ n := by have := two_pow_mono hp; simp at this; omega
    rw [e1, he, F2_rel hn ho, emod_small ⟨by omega, by omega⟩]
  exact ⟨both f h1 h3, both 106 h2 fun _ => rfl⟩
theorem leafU_both {f n op : Nat} (hn : n < 100) (ho : op < 100) (hs : isPc op = false) (h1 : fineN 64 (run0 [] f (args1 n op)) = true) (h2 : fineN n (run0 [] 97 (args1 n op)) = true)
    (h3 : ∀ x, inR .u64 x → (numE (run0 [] f (args1 n op))).den (vars2 x 0) = (numE (run0 [] 97 (args1 n op))).den (vars2 x 0)) : LeafU f n op ∧ LeafU 97 n op := by
  refine ⟨fun x hx w => ?_, fun x hx w => ?_⟩
  · refine cx_mono (run_one hn ho rfl h1 hx (fun p hp => by cases hp) w) fun v w' ⟨e1, e2, e3, e4⟩ => ⟨?_, e2⟩
    obtain ⟨_, _, _, hb⟩ := fineN_ok h2
    rw [e1, F1_un hn ho, keyU, hs, Bool.cond_false]
    rw [h3 x hx] at e3 ⊢
    rw [bnd_ok hb e3]
  · refine cx_mono (run_one hn ho rfl h2 hx (fun p hp => by cases hp) w) fun v w' ⟨e1, e2, e3, e4⟩ => ⟨?_, e2⟩
    rw [e1, F1_un hn ho, keyU, hs, Bool.cond_false, e4]
theorem leafU_agree {f n op : Nat} (hn : n < 100) (ho : op < 100) (hs : isPc op = false) (h : agreeN n (run0 [] f (args1 n op)) (run0 [] 97 (args1 n op)) = true) : LeafU f n op ∧ LeafU 97 n op := by
  obtain ⟨h1, h2, h3⟩ := agreeN_ok h
  exact leafU_both hn ho hs h1 h2 fun x _ => h3 _
theorem leafU_two {f n op : Nat} (hn : n < 100) (ho : op < 100) (hs : isPc op = false) {a b : SE} (h : twoN n (run0 [] f (args1 n op)) (run0 [] 97 (args1 n op)) a b = true) (hd : ∀ x, inR .u64 x → a.den (vars2 x 0) = b.den (vars2 x 0)) : LeafU f n op ∧ LeafU 97 n op := by
  obtain ⟨h1, h2, h3, h4⟩ := twoN_ok h
  exact leafU_both hn ho hs h1 h2 fun x hx => by rw [h3, h4]; exact hd x hx
theorem key_holds {n : Nat} (hp : n = 2 ^ Nat.log2 n) (x y : Int) : ∃ k, k < n ∧ (y % 2 ^ Nat.log2 n).toNat = k ∧ ∀ p ∈ keyK n k, p.1.den (vars2 x y) = p.2.den (vars2 x y) := by
  obtain ⟨k, hk⟩ := Int.eq_ofNat_of_zero_le (emod_range y (Nat.log2 n)).1
  refine ⟨k, ?_, by rw [hk]; rfl, fun p hp => ?_⟩
  · have := (emod_range y (Nat.log2 n)).2
    rw [hk] at this
    have e : ((k : Nat) : Int) < ((2 ^ Nat.log2 n : Nat) : Int) := by simpa using this
    rw [← hp] at e
    exact_mod_cast e
  · have : p = (.md (.var 1) (Nat.log2 n), .lit (.ofNat k)) := by simpa [keyK] using hp
    subst this
    exact hk
/-- a move, by the program and by another -/
theorem leafB_keyed {f n op : Nat} (h64 : n ≤ 64) (hn : n < 100) (ho : op < 100) (hs : isSh op = true) (hp : n = 2 ^ Nat.log2 n) (h : ∀ k, k < n → agreeN n (run0 (keyK n k) f (args2 n op)) (run0 (keyK n k) 63 (args2 n op)) = true) : LeafB f n op ∧ LeafB 63 n op := by
  have both : ∀ g, (∀ k, k < n → fineN 64 (run0 (keyK n k) g (args2 n op)) = true ∧ fineN n (run0 (keyK n k) 63 (args2 n op)) = true ∧ ∀ E, (numE (run0 (keyK n k) g (args2 n op))).den E = (numE (run0 (keyK n k) 63 (args2 n op))).den E) → LeafB g n op := by
    intro g hg x y hx hy w
    obtain ⟨k, hlt, hk, hkeys⟩ := key_holds hp x y
    obtain ⟨h1, h2, h3⟩ := hg k hlt
    refine cx_mono (run_num hn ho rfl h1 hx hy hkeys w) fun v w' ⟨e1, e2, e3, e4⟩ => ⟨?_, e2⟩
    obtain ⟨_, _, _, hl⟩ := fineN_ok h2
    rw [e1, F2_bin hn ho, keyB, hs, Bool.cond_true, hk]
    rw [h3] at e3 ⊢
    rw [bnd_ok hl e3]
  have ha := fun k hk => agreeN_ok (h k hk)
  exact ⟨both f ha, both 63 fun k hk => ⟨fineN_mono h64 (ha k hk).2.1, (ha k hk).2.1, fun _ => rfl⟩⟩
theorem keyC_holds (x : Int) : ∃ k, k < 256 ∧ (x % 2 ^ 8).toNat = k ∧ ∀ p ∈ keyC k, p.1.den (vars2 x 0) = p.2.den (vars2 x 0) := by
  obtain ⟨k, hk⟩ := Int.eq_ofNat_of_zero_le (emod_range x 8).1
  refine ⟨k, ?_, by rw [hk]; rfl, fun p hp => ?_⟩
  · have := (emod_range x 8).2
    omega
  · have : p = (.md (.var 0) 8, .lit (.ofNat k)) := by simpa [keyC] using hp
    subst this
    exact hk
/-- of the bits of a byte, byte by byte -/
theorem leafU_keyed {f op : Nat} (ho : op < 100) (hs : isPc op = true) (h : ∀ k, k < 256 → agreeN 8 (run0 (keyC k) f (args1 8 op)) (run0 (keyC k) 97 (args1 8 op)) = true) : LeafU f 8 op ∧ LeafU 97 8 op := by
  have both : ∀ g, (∀ k, k < 256 → fineN 64 (run0 (keyC k) g (args1 8 op)) = true ∧ fineN 8 (run0 (keyC k) 97 (args1 8 op)) = true ∧ ∀ E, (numE (run0 (keyC k) g (args1 8 op))).den E = (numE (run0 (keyC k) 97 (args1 8 op))).den E) → LeafU g 8 op := by
    intro g hg x hx w
    obtain ⟨k, hlt, hk, hkeys⟩ := keyC_holds x
    obtain ⟨h1, h2, h3⟩ := hg k hlt
    refine cx_mono (run_one (by decide) ho rfl h1 hx hkeys w) fun v w' ⟨e1, e2, e3, e4⟩ => ⟨?_, e2⟩
    obtain ⟨_, _, _, hl⟩ := fineN_ok h2
    rw [e1, F1_un (by decide) ho, keyU, hs, Bool.cond_true, hk]
    rw [h3] at e3 ⊢
    rw [bnd_ok hl e3]
  have ha := fun k hk => agreeN_ok (h k hk)
  exact ⟨both f ha, both 97 fun k hk => ⟨fineN_mono (by decide) (ha k hk).2.1, (ha k hk).2.1, fun _ => rfl⟩⟩

/-! summaries -/
def memP (l : List (Nat × Nat)) (n op : Nat) : Bool := match l with
  | [] => false
  | (a, b) :: t => cond (Nat.beq a n) (cond (Nat.beq b op) true (memP t n op)) (memP t n op)
theorem memP_ok : ∀ {l : List (Nat × Nat)} {n op : Nat}, memP l n op = true → (n, op) ∈ l := by
  intro l
  induction l with
  | nil => intro n op h; cases h
  | cons p l ih =>
    obtain ⟨a, b⟩ := p
    intro n op h
    simp only [memP] at h
    cases h1 : Nat.beq a n <;> rw [h1] at h
    · exact List.mem_cons_of_mem _ (ih h)
    · cases h2 : Nat.beq b op <;> rw [h2] at h
      · exact List.mem_cons_of_mem _ (ih h)
      · rw [Nat.eq_of_beq_eq_true h1, Nat.eq_of_beq_eq_true h2]; exact List.mem_cons_self
def smBin (l : List (Nat × Nat)) : Sm := fun a hp nx => match a with
  | [.int .i64 (.lit (.ofNat n)), .int .i64 (.lit (.ofNat op)), .int .u64 a, .int .u64 b] => cond (memP l n op) (cond (and (isLit a) (isLit b)) none (some (.tup [.int .u64 (.f2 (codeB n op) a b), .int .i64 (.lit 0)], hp, nx))) none
  | _ => none
def smRel (l : List (Nat × Nat)) : Sm := fun a hp nx => match a with
  | [.int .i64 (.lit (.ofNat n)), .int .i64 (.lit (.ofNat op)), .int .u64 a, .int .u64 b] => cond (memP l n op) (some (.tup [.bool (.f2 (codeR n op) a b), .int .i64 (.lit 0)], hp, nx)) none
  | _ => none
def smUn (l : List (Nat × Nat)) : Sm := fun a hp nx => match a with
  | [.int .i64 (.lit (.ofNat n)), .int .i64 (.lit (.ofNat op)), .int .u64 a] => cond (memP l n op) (some (.tup [.int .u64 (.f1 (codeU n op) a), .int .i64 (.lit 0)], hp, nx)) none
  | _ => none
def small (l : List (Nat × Nat)) : Prop := ∀ p ∈ l, p.1 ≤ 64 ∧ p.2 < 100
theorem u64_of_mod {x : Int} {n : Nat} (h : n ≤ 64) : inR .u64 (x % 2 ^ n) := by
  have h1 := emod_range x n
  have h2 := two_pow_mono h
  simp [inR, IntKind.min, IntKind.max, IntKind.signed, IntKind.bits] at *
  omega
theorem codeB_mod {n op : Nat} (hn : n ≤ 64) : codeB n op % 100 = n := by unfold codeB; omega
theorem codeR_mod {n op : Nat} (hn : n ≤ 64) : codeR n op % 100 = n := by unfold codeR; omega
theorem codeU_mod {n op : Nat} (hn : n ≤ 64) : codeU n op % 100 = n := by unfold codeU; omega
theorem smBin_ok {va : Nat → Int} {G : Gl} {f : FuncId} {l : List (Nat × Nat)} (hs : small l) (h : ∀ p ∈ l, LeafB f p.1 p.2) : SmOk (EE va) Tryz.prog G f (smBin l) := by
  intro args hp nx v hp' nx' hv loc w hr hg hw
  unfold smBin at hv
  split at hv
  · rename_i n op a b
    cases h1 : memP l n op <;> rw [h1] at hv <;> try (cases hv; done)
    cases h2 : and (isLit a) (isLit b) <;> rw [h2] at hv <;> cases hv
    have hm := memP_ok h1
    obtain ⟨s1, s2⟩ := hs _ hm
    obtain ⟨_, _, wa, wb, _⟩ := hw
    refine cx_mono (h _ hm _ _ wa wb w) fun u w' ⟨e1, e2⟩ => ⟨loc, ?_, step_of_below hr e2 ⟨?_, ?_, trivial⟩⟩
    · rw [e1]
      simp only [SV.den, denL, SE.den, codeB_mod s1]
      rfl
    · simp only [SV.wf, SE.den, codeB_mod s1]
      exact u64_of_mod s1
    · exact in_bits (n := 0) (by decide)
  · cases hv
theorem smRel_ok {va : Nat → Int} {G : Gl} {f : FuncId} {l : List (Nat × Nat)} (hs : small l) (h : ∀ p ∈ l, LeafR f p.1 p.2) : SmOk (EE va) Tryz.prog G f (smRel l) := by
  intro args hp nx v hp' nx' hv loc w hr hg hw
  unfold smRel at hv
  split at hv
  · rename_i n op a b
    cases h1 : memP l n op <;> rw [h1] at hv <;> cases hv
    have hm := memP_ok h1
    obtain ⟨s1, s2⟩ := hs _ hm
    obtain ⟨_, _, wa, wb, _⟩ := hw
    refine cx_mono (h _ hm _ _ wa wb w) fun u w' ⟨e1, e2⟩ => ⟨loc, ?_, step_of_below hr e2 ⟨trivial, ?_, trivial⟩⟩
    · rw [e1]
      simp only [SV.den, denL, SE.den, codeR_mod s1]
      rfl
    · exact in_bits (n := 0) (by decide)
  · cases hv
theorem smUn_ok {va : Nat → Int} {G : Gl} {f : FuncId} {l : List (Nat × Nat)} (hs : small l) (h : ∀ p ∈ l, LeafU f p.1 p.2) : SmOk (EE va) Tryz.prog G f (smUn l) := by
  intro args hp nx v hp' nx' hv loc w hr hg hw
  unfold smUn at hv
  split at hv
  · rename_i n op a
    cases h1 : memP l n op <;> rw [h1] at hv <;> cases hv
    have hm := memP_ok h1
    obtain ⟨s1, s2⟩ := hs _ hm
    obtain ⟨_, _, wa, _⟩ := hw
    refine cx_mono (h _ hm _ wa w) fun u w' ⟨e1, e2⟩ => ⟨loc, ?_, step_of_below hr e2 ⟨?_, ?_, trivial⟩⟩
    · rw [e1]
      simp only [SV.den, denL, SE.den, codeU_mod s1]
      rfl
    · simp only [SV.wf, SE.den, codeU_mod s1]
      exact u64_of_mod s1
    · exact in_bits (n := 0) (by decide)
  · cases hv

end Sx
end Go.Proofs.YtfdggebddcoeeaaGreatDoor
end
