/-
  A state of a function, outcomes, one operation.
-/
import Derived.Test.YtfdggebddcoeeaaGreatDoorTyL
set_option linter.unusedVariables false
set_option linter.unusedSimpArgs false
noncomputable section
namespace Go.Proofs.YtfdggebddcoeeaaGreatDoor
namespace Sx
open Go Go.RowKit
variable (E : Env) (P : Program) (G : Gl)

/-- what a call is given: how many temporaries, the number of the first block of its own, the world and the places at its start -/
structure Fr where
  n : Nat
  lo : Nat
  w0 : World
  loc0 : Nat → Nat × Nat
variable (F : Fr)
structure St (loc : Nat → Nat × Nat) (tm : Tr SV) (hp : Tr SBlk) (nx : Nat) (a : Act) (w : World) : Prop where
  size : a.tmps.size = F.n
  defs : a.defers = []
  tr : TRel E loc nx tm a.tmps
  hr : HRel E loc P nx hp w
  le : F.lo ≤ nx
  bel : Below F.w0.heap.size F.w0 w
  own : Own loc F.lo F.w0.heap.size nx
  agree : ∀ b, b < F.lo → loc b = F.loc0 b

theorem gok_below {w0 w : World} (hg : GOk E G w0) (h : Below w0.heap.size w0 w) : GOk E G w := by
  refine ⟨hg.1, fun g i v hv => ?_⟩
  obtain ⟨h1, h2, h3⟩ := hg.2 g i v hv
  refine ⟨fun loc => ?_, h2, h3⟩
  have h4 := h1 loc
  have hlt : g < w0.heap.size := World.block_lt_of_cell? w0 ⟨g, i, none⟩ h4
  rw [h.cell (p := ⟨g, i, none⟩) hlt]
  exact h4
theorem hrel_congr {loc loc' : Nat → Nat × Nat} {nx nx' : Nat} {hp : Tr SBlk} {w : World} (hr : HRel E loc P nx hp w) (hl : ∀ b, b < nx → loc' b = loc b) (hn : nx ≤ nx') : HRel E loc' P nx' hp w := by
  refine ⟨fun b k h => Nat.lt_of_lt_of_le (hr.lt b k h) hn, fun b k h => brel_congr E loc P hl (hr.lt b k h) (hr.wf b k h) rfl (hr.rel b k h), fun b k h => wfL_mono E hn _ (hr.wf b k h), hr.one, fun b k b' k' h h' he => ?_⟩
  rw [hl b (hr.lt b k h), hl b' (hr.lt b' k' h')] at he
  exact hr.inj b k b' k' h h' he
theorem trel_congr {loc loc' : Nat → Nat × Nat} {nx nx' : Nat} {tm : Tr SV} {ts : Array Value} (ht : TRel E loc nx tm ts) (hl : ∀ b, b < nx → loc' b = loc b) (hn : nx ≤ nx') : TRel E loc' nx' tm ts := by
  intro t v h
  obtain ⟨h1, h2⟩ := ht t v h
  exact ⟨by rw [SV.den_congr E loc hl v h2]; exact h1, SV.wf_mono E hn v h2⟩
theorem putO_trel {loc : Nat → Nat × Nat} {nx : Nat} {tm : Tr SV} {a : Act} (ht : TRel E loc nx tm a.tmps) {d : Option Tmp} (hd : ∀ t, d = some t → t < a.tmps.size) {v : SV} (hv : v.wf E nx) : TRel E loc nx (putO d v tm) (a.put d (v.den E loc)).tmps := by
  cases d with
  | none => exact ht
  | some d =>
    intro t u h
    rcases Tr.get_set h with ⟨e, h2⟩ | ⟨e, h2⟩
    · subst e h2
      exact ⟨by simp [Act.put, Array.getElem?_setIfInBounds, hd t rfl], hv⟩
    · obtain ⟨h3, h4⟩ := ht t u h2
      exact ⟨by simp [Act.put, Array.getElem?_setIfInBounds, Ne.symm e]; exact h3, h4⟩
theorem put_size (a : Act) (d : Option Tmp) (v : Value) : (a.put d v).tmps.size = a.tmps.size := by cases d <;> simp [Act.put]
theorem put_defs (a : Act) (d : Option Tmp) (v : Value) : (a.put d v).defers = a.defers := by cases d <;> rfl

variable {E P G F}
theorem St.sil {loc : Nat → Nat × Nat} {tm : Tr SV} {hp : Tr SBlk} {nx : Nat} {a : Act} {w : World} (s : St E P F loc tm hp nx a w) {d : Option Tmp} (hd : ∀ t, d = some t → t < F.n) {v : SV} (hv : v.wf E nx) :
    St E P F loc (putO d v tm) hp nx (a.put d (v.den E loc)) w :=
  ⟨by rw [put_size]; exact s.size, by rw [put_defs]; exact s.defs, putO_trel E s.tr (by rw [s.size]; exact hd) hv, s.hr, s.le, s.bel, s.own, s.agree⟩
theorem St.step {loc loc' : Nat → Nat × Nat} {tm : Tr SV} {hp hp' : Tr SBlk} {nx nx' : Nat} {a : Act} {w w' : World} (s : St E P F loc tm hp nx a w) {d : Option Tmp} (hd : ∀ t, d = some t → t < F.n) {v : SV}
    (h : Step E loc P F.w0.heap.size F.lo nx nx' hp' w v loc' w') : St E P F loc' (putO d v tm) hp' nx' (a.put d (v.den E loc')) w' :=
  ⟨by rw [put_size]; exact s.size, by rw [put_defs]; exact s.defs, putO_trel E (trel_congr E s.tr h.agree h.le) (by rw [s.size]; exact hd) h.wf, h.hr, Nat.le_trans s.le h.le, s.bel.trans h.bel, h.own,
    fun b hb => (h.agree b (Nat.lt_of_lt_of_le hb s.le)).trans (s.agree b hb)⟩
/-- a temporary that holds the same -/
theorem St.same {loc : Nat → Nat × Nat} {tm : Tr SV} {hp : Tr SBlk} {nx : Nat} {a : Act} {w : World} (s : St E P F loc tm hp nx a w) {t : Nat} {v u : SV} (ht : tm.get t = some v) (he : u.den E loc = v.den E loc) (hu : u.wf E nx) :
    St E P F loc (tm.set t u) hp nx a w := by
  refine ⟨s.size, s.defs, fun t' x h => ?_, s.hr, s.le, s.bel, s.own, s.agree⟩
  rcases Tr.get_set h with ⟨e, h2⟩ | ⟨_, h2⟩
  · subst e h2
    exact ⟨by rw [he]; exact (s.tr t' v ht).1, hu⟩
  · exact s.tr t' x h2

/-! outcomes -/
def Ex.conv : Ex → Exit
  | .normal => .normal
  | .exit i => .exit i
  | .ret => .ret
variable (E P G F)
def Post : Out → Exit → Act → World → Prop
  | .done ex tm hp nx => fun e a w => e = ex.conv ∧ ∃ loc, St E P F loc tm hp nx a w
  | .split c t f => fun e a w => (c.den E ≠ 0 → Post t e a w) ∧ (c.den E = 0 → Post f e a w)

/-! merging -/
theorem capEq_ok {a b : Cap} (h : capEq a b = true) : a = b := by
  cases a <;> cases b <;> simp [capEq] at h <;> rw [h]
theorem eqB_ok : ∀ {a b : List UInt8}, eqB a b = true → a = b
  | [], [], _ => rfl
  | a :: x, b :: y, h => by
    simp only [eqB] at h
    cases h1 : Nat.beq a.toNat b.toNat <;> rw [h1] at h <;> try (cases h; done)
    rw [eqB_ok (a := x) (b := y) h, UInt8.toNat_inj.1 (Nat.eq_of_beq_eq_true h1)]
/-- v stands for a where c holds, for b where it does not -/
def Mg (c : SE) (a b v : SV) : Prop := ∀ (loc : Nat → Nat × Nat) (nx : Nat),
    (c.den E ≠ 0 → a.wf E nx → v.den E loc = a.den E loc ∧ v.wf E nx) ∧ (c.den E = 0 → b.wf E nx → v.den E loc = b.den E loc ∧ v.wf E nx)
def MgL (c : SE) (a b v : List SV) : Prop := ∀ (loc : Nat → Nat × Nat) (nx : Nat),
    (c.den E ≠ 0 → wfL E nx a → denL E loc v = denL E loc a ∧ wfL E nx v) ∧ (c.den E = 0 → wfL E nx b → denL E loc v = denL E loc b ∧ wfL E nx v)
theorem mg_same (c : SE) (a : SV) : Mg E c a a a := fun _ _ => ⟨fun _ h => ⟨rfl, h⟩, fun _ h => ⟨rfl, h⟩⟩
theorem mgV_ok {c : SE} {a b v : SV} (h : mgV c a b = some v) : Mg E c a b v := by
  cases a <;> simp only [mgV] at h <;> (try (cases h; done)) <;> cases b <;> (try simp only at h) <;> (try (cases h; done))
  case bool.bool x y =>
    cases h
    refine fun loc nx => ⟨fun hc _ => ⟨?_, trivial⟩, fun hc _ => ⟨?_, trivial⟩⟩ <;> simp [SV.den, mkIte_den, hc]
  case int.int k x l y =>
    by_cases hkl : k = l
    · subst hkl
      rw [decide_eq_true rfl, Bool.cond_true] at h
      cases h
      refine fun loc nx => ⟨fun hc hw => ⟨?_, ?_⟩, fun hc hw => ⟨?_, ?_⟩⟩
      · simp [SV.den, mkIte_den, hc]
      · simp only [SV.wf, mkIte_den, hc, if_false]; exact hw
      · simp [SV.den, mkIte_den, hc]
      · simp only [SV.wf, mkIte_den, hc, if_true]; exact hw
    · rw [decide_eq_false hkl, Bool.cond_false] at h; cases h
  case str.str x y =>
    cases h1 : eqB x y <;> rw [h1] at h <;> cases h
    rw [← eqB_ok h1]; exact mg_same E c _
  case ptr.ptr p o q u =>
    cases h1 : Nat.beq p q <;> rw [h1] at h <;> try (cases h; done)
    cases h2 : Nat.beq o u <;> rw [h2] at h <;> cases h
    rw [Nat.eq_of_beq_eq_true h1, Nat.eq_of_beq_eq_true h2]; exact mg_same E c _
  case gptr.gptr p o q u =>
    cases h1 : Nat.beq p q <;> rw [h1] at h <;> try (cases h; done)
    cases h2 : Nat.beq o u <;> rw [h2] at h <;> cases h
    rw [Nat.eq_of_beq_eq_true h1, Nat.eq_of_beq_eq_true h2]; exact mg_same E c _
  case sl.sl p o n d q u m e =>
    cases h1 : Nat.beq p q <;> rw [h1] at h <;> try (cases h; done)
    cases h2 : Nat.beq o u <;> rw [h2] at h <;> try (cases h; done)
    cases h3 : Nat.beq n m <;> rw [h3] at h <;> try (cases h; done)
    cases h4 : capEq d e <;> rw [h4] at h <;> cases h
    rw [Nat.eq_of_beq_eq_true h1, Nat.eq_of_beq_eq_true h2, Nat.eq_of_beq_eq_true h3, capEq_ok h4]; exact mg_same E c _
  case nils.nils => cases h; exact mg_same E c _
theorem mgL_ok {c : SE} : ∀ {a b v : List SV}, mgL c a b = some v → MgL E c a b v := by
  intro a
  induction a with
  | nil =>
    intro b v h
    cases b <;> simp only [mgL] at h <;> cases h
    exact fun _ _ => ⟨fun _ h => ⟨rfl, h⟩, fun _ h => ⟨rfl, h⟩⟩
  | cons x a ih =>
    intro b v h
    cases b with
    | nil => simp only [mgL] at h; cases h
    | cons y b =>
      simp only [mgL] at h
      cases h1 : mgV c x y with
      | none => rw [h1] at h; cases h
      | some u =>
        cases h2 : mgL c a b with
        | none => rw [h1, h2] at h; cases h
        | some l =>
          rw [h1, h2] at h
          cases h
          intro loc nx
          refine ⟨fun hc hw => ?_, fun hc hw => ?_⟩
          · obtain ⟨a1, a2⟩ := (mgV_ok E h1 loc nx).1 hc hw.1
            obtain ⟨b1, b2⟩ := (ih h2 loc nx).1 hc hw.2
            exact ⟨by simp [denL, a1, b1], a2, b2⟩
          · obtain ⟨a1, a2⟩ := (mgV_ok E h1 loc nx).2 hc hw.1
            obtain ⟨b1, b2⟩ := (ih h2 loc nx).2 hc hw.2
            exact ⟨by simp [denL, a1, b1], a2, b2⟩
theorem mg_agg {c : SE} {x y l : List SV} (h : MgL E c x y l) : Mg E c (.agg x) (.agg y) (.agg l) := fun loc nx =>
  ⟨fun hc hw => (fun ⟨a1, a2⟩ => ⟨by simp [SV.den, a1], a2⟩) ((h loc nx).1 hc hw), fun hc hw => (fun ⟨a1, a2⟩ => ⟨by simp [SV.den, a1], a2⟩) ((h loc nx).2 hc hw)⟩
theorem mg_tup {c : SE} {x y l : List SV} (h : MgL E c x y l) : Mg E c (.tup x) (.tup y) (.tup l) := fun loc nx =>
  ⟨fun hc hw => (fun ⟨a1, a2⟩ => ⟨by simp [SV.den, a1], a2⟩) ((h loc nx).1 hc hw), fun hc hw => (fun ⟨a1, a2⟩ => ⟨by simp [SV.den, a1], a2⟩) ((h loc nx).2 hc hw)⟩
theorem mgW_ok {c : SE} {a b v : SV} (h : mgW c a b = some v) : Mg E c a b v := by
  cases a <;> simp only [mgW] at h
  case agg x =>
    cases b <;> simp only at h <;> try (cases h; done)
    rename_i y
    cases h1 : mgL c x y with
    | none => rw [h1] at h; cases h
    | some l => rw [h1] at h; cases h; exact mg_agg E (mgL_ok E h1)
  case tup x =>
    cases b <;> simp only at h <;> try (cases h; done)
    rename_i y
    cases h1 : mgL c x y with
    | none => rw [h1] at h; cases h
    | some l => rw [h1] at h; cases h; exact mg_tup E (mgL_ok E h1)
  all_goals exact mgV_ok E h
theorem mgWL_ok {c : SE} : ∀ {a b v : List SV}, mgWL c a b = some v → MgL E c a b v := by
  intro a
  induction a with
  | nil =>
    intro b v h
    cases b <;> simp only [mgWL] at h <;> cases h
    exact fun _ _ => ⟨fun _ h => ⟨rfl, h⟩, fun _ h => ⟨rfl, h⟩⟩
  | cons x a ih =>
    intro b v h
    cases b with
    | nil => simp only [mgWL] at h; cases h
    | cons y b =>
      simp only [mgWL] at h
      cases h1 : mgW c x y with
      | none => rw [h1] at h; cases h
      | some u =>
        cases h2 : mgWL c a b with
        | none => rw [h1, h2] at h; cases h
        | some l =>
          rw [h1, h2] at h
          cases h
          intro loc nx
          refine ⟨fun hc hw => ?_, fun hc hw => ?_⟩
          · obtain ⟨a1, a2⟩ := (mgW_ok E h1 loc nx).1 hc hw.1
            obtain ⟨b1, b2⟩ := (ih h2 loc nx).1 hc hw.2
            exact ⟨by simp [denL, a1, b1], a2, b2⟩
          · obtain ⟨a1, a2⟩ := (mgW_ok E h1 loc nx).2 hc hw.1
            obtain ⟨b1, b2⟩ := (ih h2 loc nx).2 hc hw.2
            exact ⟨by simp [denL, a1, b1], a2, b2⟩
theorem mgX_ok {c : SE} {a b v : SV} (h : mgX c a b = some v) : Mg E c a b v := by
  cases a <;> simp only [mgX] at h
  case tup x =>
    cases b <;> simp only at h <;> try (cases h; done)
    rename_i y
    cases h1 : mgWL c x y with
    | none => rw [h1] at h; cases h
    | some l => rw [h1] at h; cases h; exact mg_tup E (mgWL_ok E h1)
  all_goals exact mgW_ok E h
theorem mgT_get {c : SE} : ∀ {a b : Tr SV} {k : Nat} {v : SV}, (mgT c a b).get k = some v → ∃ x y, a.get k = some x ∧ b.get k = some y ∧ mgW c x y = some v := by
  intro a
  induction a with
  | lf => intro b k v h; simp only [mgT] at h; cases h
  | nd l o r ihl ihr =>
    intro b k v h
    cases b with
    | lf => simp only [mgT] at h; cases h
    | nd l' o' r' =>
      simp only [mgT] at h
      cases k with
      | zero =>
        rw [Tr.get_zero] at h ⊢
        rw [Tr.get_zero]
        cases o <;> simp only [mgOV] at h <;> try (cases h; done)
        cases o' <;> simp only at h <;> try (cases h; done)
        exact ⟨_, _, rfl, rfl, h⟩
      | succ j =>
        cases hb : Nat.beq (Nat.mod j 2) 0
        · rw [Tr.get_odd _ _ _ _ hb] at h
          obtain ⟨x, y, h1, h2, h3⟩ := ihr h
          exact ⟨x, y, by rw [Tr.get_odd _ _ _ _ hb]; exact h1, by rw [Tr.get_odd _ _ _ _ hb]; exact h2, h3⟩
        · rw [Tr.get_even _ _ _ _ hb] at h
          obtain ⟨x, y, h1, h2, h3⟩ := ihl h
          exact ⟨x, y, by rw [Tr.get_even _ _ _ _ hb]; exact h1, by rw [Tr.get_even _ _ _ _ hb]; exact h2, h3⟩
theorem mgH_get {c : SE} : ∀ {a b : Tr SBlk} {k : Nat} {v : SBlk}, (mgH c a b).get k = some v → ∃ x y, a.get k = some x ∧ b.get k = some y ∧ mgB c x y = some v := by
  intro a
  induction a with
  | lf => intro b k v h; simp only [mgH] at h; cases h
  | nd l o r ihl ihr =>
    intro b k v h
    cases b with
    | lf => simp only [mgH] at h; cases h
    | nd l' o' r' =>
      simp only [mgH] at h
      cases k with
      | zero =>
        rw [Tr.get_zero] at h ⊢
        rw [Tr.get_zero]
        cases o <;> simp only [mgOB] at h <;> try (cases h; done)
        cases o' <;> simp only at h <;> try (cases h; done)
        exact ⟨_, _, rfl, rfl, h⟩
      | succ j =>
        cases hb : Nat.beq (Nat.mod j 2) 0
        · rw [Tr.get_odd _ _ _ _ hb] at h
          obtain ⟨x, y, h1, h2, h3⟩ := ihr h
          exact ⟨x, y, by rw [Tr.get_odd _ _ _ _ hb]; exact h1, by rw [Tr.get_odd _ _ _ _ hb]; exact h2, h3⟩
        · rw [Tr.get_even _ _ _ _ hb] at h
          obtain ⟨x, y, h1, h2, h3⟩ := ihl h
          exact ⟨x, y, by rw [Tr.get_even _ _ _ _ hb]; exact h1, by rw [Tr.get_even _ _ _ _ hb]; exact h2, h3⟩
theorem mgV_one {c : SE} {a b v : SV} (h : mgV c a b = some v) : oneC v = true := by
  cases a <;> simp only [mgV] at h <;> (try (cases h; done)) <;> cases b <;> (try simp only at h) <;> (try (cases h; done))
  case bool.bool => cases h; rfl
  case int.int k x l y => cases h1 : decide (k = l) <;> rw [h1] at h <;> cases h; rfl
  case str.str x y => cases h1 : eqB x y <;> rw [h1] at h <;> cases h; rfl
  case ptr.ptr p o q u =>
    cases h1 : Nat.beq p q <;> rw [h1] at h <;> try (cases h; done)
    cases h2 : Nat.beq o u <;> rw [h2] at h <;> cases h; rfl
  case gptr.gptr p o q u =>
    cases h1 : Nat.beq p q <;> rw [h1] at h <;> try (cases h; done)
    cases h2 : Nat.beq o u <;> rw [h2] at h <;> cases h; rfl
  case sl.sl p o n d q u m e =>
    cases h1 : Nat.beq p q <;> rw [h1] at h <;> try (cases h; done)
    cases h2 : Nat.beq o u <;> rw [h2] at h <;> try (cases h; done)
    cases h3 : Nat.beq n m <;> rw [h3] at h <;> try (cases h; done)
    cases h4 : capEq d e <;> rw [h4] at h <;> cases h; rfl
  case nils.nils => cases h; rfl
theorem mgL_one {c : SE} : ∀ {a b v : List SV}, mgL c a b = some v → allOne v = true ∧ v.length = a.length ∧ v.length = b.length := by
  intro a
  induction a with
  | nil => intro b v h; cases b <;> simp only [mgL] at h <;> cases h; exact ⟨rfl, rfl, rfl⟩
  | cons x a ih =>
    intro b v h
    cases b with
    | nil => simp only [mgL] at h; cases h
    | cons y b =>
      simp only [mgL] at h
      cases h1 : mgV c x y with
      | none => rw [h1] at h; cases h
      | some u =>
        cases h2 : mgL c a b with
        | none => rw [h1, h2] at h; cases h
        | some l =>
          rw [h1, h2] at h
          cases h
          obtain ⟨a1, a2, a3⟩ := ih h2
          exact ⟨by simp only [allOne, mgV_one h1, a1, Bool.cond_true], by simp [a2], by simp [a3]⟩
theorem mgB_ok {c : SE} {x y k : SBlk} (h : mgB c x y = some k) : k.ty = x.ty ∧ k.ty = y.ty ∧ k.ex = x.ex ∧ k.ex = y.ex ∧ (k.fr = false → x.fr = false ∧ y.fr = false) ∧ mgL c x.cells y.cells = some k.cells := by
  obtain ⟨t, a, e, f⟩ := x
  obtain ⟨u, b, g, i⟩ := y
  simp only [mgB] at h
  cases h1 : Nat.beq t u <;> rw [h1] at h <;> try (cases h; done)
  cases h2 : (e == g) <;> rw [h2] at h <;> try (cases h; done)
  simp only [Bool.cond_true] at h
  split at h
  · rename_i l hl
    cases h
    have e1 := Nat.eq_of_beq_eq_true h1
    have e2 : e = g := by simpa using h2
    exact ⟨rfl, e1, rfl, e2, by simp, hl⟩
  · cases h
theorem maxN_left (a b : Nat) : a ≤ maxN a b := by
  unfold maxN
  cases h : Nat.ble a b
  · exact Nat.le_refl _
  · exact Nat.le_of_ble_eq_true h
theorem maxN_right (a b : Nat) : b ≤ maxN a b := by
  unfold maxN
  cases h : Nat.ble a b
  · have : ¬ a ≤ b := fun e => by rw [Nat.ble_eq_true_of_le e] at h; cases h
    show b ≤ a; omega
  · exact Nat.le_refl _

end Sx
end Go.Proofs.YtfdggebddcoeeaaGreatDoor
end
