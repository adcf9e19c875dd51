/-
  What symbolic values stand for, how a symbolic state stands to a real one; trees; operands.
-/
import Derived.Test.YtfdggebddcoeeaaGreatDoorTyC
import Derived.Laws.StructEq
import Derived.Laws.Cells
import Derived.Laws.Tables
import Derived.Laws.CopyRow
import Derived.Laws.MakeOwn
import Derived.Laws.OwnMore
import Derived.Laws.AppendOwn
import Derived.Laws.Slices
import Derived.OrdersHeld
set_option linter.unusedVariables false
set_option linter.unusedSimpArgs false
noncomputable section
namespace Go.Proofs.YtfdggebddcoeeaaGreatDoor
namespace Sx
open Go Go.RowKit

/-! trees -/
section
variable {α : Type}
theorem Tr.get_lf (k : Nat) : (Tr.lf : Tr α).get k = none := rfl
theorem Tr.get_zero (l r : Tr α) (v : Option α) : (Tr.nd l v r).get 0 = v := rfl
theorem Tr.get_even (l r : Tr α) (v : Option α) (j : Nat) (h : Nat.beq (Nat.mod j 2) 0 = true) : (Tr.nd l v r).get (j + 1) = l.get (Nat.div j 2) := by
  show Bool.rec (motive := fun _ => Option α) (r.get (Nat.div j 2)) (l.get (Nat.div j 2)) (Nat.beq (Nat.mod j 2) 0) = _
  rw [h]
theorem Tr.get_odd (l r : Tr α) (v : Option α) (j : Nat) (h : Nat.beq (Nat.mod j 2) 0 = false) : (Tr.nd l v r).get (j + 1) = r.get (Nat.div j 2) := by
  show Bool.rec (motive := fun _ => Option α) (r.get (Nat.div j 2)) (l.get (Nat.div j 2)) (Nat.beq (Nat.mod j 2) 0) = _
  rw [h]
theorem half_eq {i j : Nat} (hi : Nat.beq (Nat.mod i 2) 0 = Nat.beq (Nat.mod j 2) 0) (h : Nat.div i 2 = Nat.div j 2) : i = j := by
  have h' : i / 2 = j / 2 := h
  cases h1 : Nat.beq (Nat.mod i 2) 0
  · have a1 : ¬ i % 2 = 0 := fun e => by
      have : Nat.beq (Nat.mod i 2) 0 = true := by rw [show Nat.mod i 2 = 0 from e]; rfl
      rw [this] at h1; cases h1
    have a2 : ¬ j % 2 = 0 := fun e => by
      have : Nat.beq (Nat.mod j 2) 0 = true := by rw [show Nat.mod j 2 = 0 from e]; rfl
      rw [hi, this] at h1; cases h1
    omega
  · have a1 : i % 2 = 0 := Nat.eq_of_beq_eq_true h1
    have a2 : j % 2 = 0 := Nat.eq_of_beq_eq_true (hi ▸ h1)
    omega
theorem Tr.get_sing (n : Nat) : ∀ (k : Nat) (o : Option α) (k' : Nat) (x : α), (Tr.sing n k o).get k' = some x → k' = k ∧ o = some x := by
  induction n with
  | zero => intro k o k' x h; cases h
  | succ n ih =>
    intro k o k' x h
    cases k with
    | zero =>
      have h2 : (Tr.nd .lf o .lf : Tr α).get k' = some x := h
      cases k' with
      | zero => exact ⟨rfl, h2⟩
      | succ j =>
        cases hb : Nat.beq (Nat.mod j 2) 0
        · rw [Tr.get_odd _ _ _ _ hb] at h2; cases h2
        · rw [Tr.get_even _ _ _ _ hb] at h2; cases h2
    | succ i =>
      have h2 : (Bool.rec (motive := fun _ => Tr α) (.nd .lf none (Tr.sing n (Nat.div i 2) o)) (.nd (Tr.sing n (Nat.div i 2) o) none .lf) (Nat.beq (Nat.mod i 2) 0) : Tr α).get k' = some x := h
      cases hi : Nat.beq (Nat.mod i 2) 0 <;> rw [hi] at h2 <;> cases k' with
      | zero => cases h2
      | succ j =>
        cases hb : Nat.beq (Nat.mod j 2) 0
        · rw [Tr.get_odd _ _ _ _ hb] at h2
          first
            | (cases h2; done)
            | (obtain ⟨e1, e2⟩ := ih _ _ _ _ h2; exact ⟨by rw [half_eq (by rw [hb, hi]) e1], e2⟩)
        · rw [Tr.get_even _ _ _ _ hb] at h2
          first
            | (cases h2; done)
            | (obtain ⟨e1, e2⟩ := ih _ _ _ _ h2; exact ⟨by rw [half_eq (by rw [hb, hi]) e1], e2⟩)
theorem Tr.get_upd (t : Tr α) : ∀ (k : Nat) (o : Option α) (k' : Nat) (x : α), (t.upd k o).get k' = some x → (k' = k ∧ o = some x) ∨ (k' ≠ k ∧ t.get k' = some x) := by
  induction t with
  | lf =>
    intro k o k' x h
    exact .inl (Tr.get_sing 40 k o k' x h)
  | nd l v r ihl ihr =>
    intro k o k' x h
    cases k with
    | zero =>
      have h2 : (Tr.nd l o r : Tr α).get k' = some x := h
      cases k' with
      | zero => exact .inl ⟨rfl, h2⟩
      | succ j =>
        refine .inr ⟨by simp, ?_⟩
        cases hb : Nat.beq (Nat.mod j 2) 0
        · rw [Tr.get_odd _ _ _ _ hb] at h2 ⊢; exact h2
        · rw [Tr.get_even _ _ _ _ hb] at h2 ⊢; exact h2
    | succ i =>
      have h2 : (Bool.rec (motive := fun _ => Tr α) (.nd l v (r.upd (Nat.div i 2) o)) (.nd (l.upd (Nat.div i 2) o) v r) (Nat.beq (Nat.mod i 2) 0) : Tr α).get k' = some x := h
      cases hi : Nat.beq (Nat.mod i 2) 0 <;> rw [hi] at h2 <;> cases k' with
      | zero => exact .inr ⟨by simp, h2⟩
      | succ j =>
        cases hb : Nat.beq (Nat.mod j 2) 0
        all_goals
          first
            | (rw [Tr.get_odd _ _ _ _ hb] at h2 ⊢)
            | (rw [Tr.get_even _ _ _ _ hb] at h2 ⊢)
          first
            | (rcases ihr _ _ _ _ h2 with ⟨e1, e2⟩ | ⟨e1, e2⟩
               · exact .inl ⟨by rw [half_eq (by rw [hb, hi]) e1], e2⟩
               · exact .inr ⟨fun e => e1 (by cases e; rfl), e2⟩)
            | (rcases ihl _ _ _ _ h2 with ⟨e1, e2⟩ | ⟨e1, e2⟩
               · exact .inl ⟨by rw [half_eq (by rw [hb, hi]) e1], e2⟩
               · exact .inr ⟨fun e => e1 (by cases e; rfl), e2⟩)
            | exact .inr ⟨fun e => (by cases e; rw [hi] at hb; cases hb), h2⟩
theorem Tr.get_set {t : Tr α} {k : Nat} {v : α} {k' : Nat} {x : α} (h : (t.set k v).get k' = some x) : (k' = k ∧ v = x) ∨ (k' ≠ k ∧ t.get k' = some x) := by
  rcases Tr.get_upd t k (some v) k' x h with ⟨e, h⟩ | h
  · exact .inl ⟨e, by injection h⟩
  · exact .inr h
theorem Tr.get_del {t : Tr α} {k : Nat} {k' : Nat} {x : α} (h : (t.del k).get k' = some x) : k' ≠ k ∧ t.get k' = some x := by
  rcases Tr.get_upd t k none k' x h with ⟨_, h⟩ | h
  · cases h
  · exact h
end

/-! values -/
variable (E : Env) (loc : Nat → Nat × Nat)
def Cap.den (b : Nat) (c : Cap) : Nat := match c with
  | .ex n => n
  | .gr d => (loc b).2 - d
mutual
def SV.den : SV → Value
  | .bool e => .bool (decide (e.den E ≠ 0))
  | .int k e => .int k (e.den E)
  | .str s => .string ⟨s.toArray⟩
  | .ptr b off => .pointer (some ⟨(loc b).1, off, none⟩)
  | .gptr g off => .pointer (some ⟨g, off, none⟩)
  | .nilp => .pointer none
  | .sl b off len c => .slice (some ⟨(loc b).1, off, none⟩) len (c.den loc b)
  | .nils => .slice none 0 0
  | .func f caps => .func (.func f) #[] (denL caps).toArray
  | .nilf => .nilFunc
  | .agg cs => .agg (denL cs).toArray
  | .tup vs => .tuple (denL vs).toArray
def denL : List SV → List Value
  | [] => []
  | v :: l => SV.den v :: denL l
end
mutual
def SV.wf (nx : Nat) : SV → Prop
  | .int k e => inR k (e.den E)
  | .ptr b _ => b < nx
  | .sl b _ _ _ => b < nx
  | .func _ caps => wfL nx caps
  | .agg cs => wfL nx cs
  | .tup vs => wfL nx vs
  | _ => True
def wfL (nx : Nat) : List SV → Prop
  | [] => True
  | v :: l => SV.wf nx v ∧ wfL nx l
end
theorem denL_eq (l : List SV) : denL E loc l = l.map (SV.den E loc) := by
  induction l with
  | nil => rfl
  | cons v l ih => simp [denL, ih]
theorem wfL_iff (nx : Nat) (l : List SV) : wfL E nx l ↔ ∀ v ∈ l, v.wf E nx := by
  induction l with
  | nil => simp [wfL]
  | cons v l ih => simp [wfL, ih]
mutual
theorem SV.den_congr {loc' : Nat → Nat × Nat} {nx : Nat} (h : ∀ b, b < nx → loc' b = loc b) : ∀ v : SV, v.wf E nx → v.den E loc' = v.den E loc
  | .bool _, _ => rfl
  | .int _ _, _ => rfl
  | .str _, _ => rfl
  | .ptr b off, hv => by simp only [SV.den, h b hv]
  | .gptr _ _, _ => rfl
  | .nilp, _ => rfl
  | .sl b off len c, hv => by cases c <;> simp only [SV.den, Cap.den, h b hv]
  | .nils, _ => rfl
  | .func f caps, hv => by simp only [SV.den, denL_congr h caps hv]
  | .nilf, _ => rfl
  | .agg cs, hv => by simp only [SV.den, denL_congr h cs hv]
  | .tup vs, hv => by simp only [SV.den, denL_congr h vs hv]
theorem denL_congr {loc' : Nat → Nat × Nat} {nx : Nat} (h : ∀ b, b < nx → loc' b = loc b) : ∀ l : List SV, wfL E nx l → denL E loc' l = denL E loc l
  | [], _ => rfl
  | v :: l, hv => by simp only [denL, SV.den_congr h v hv.1, denL_congr h l hv.2]
end
mutual
theorem SV.wf_mono {nx nx' : Nat} (h : nx ≤ nx') : ∀ v : SV, v.wf E nx → v.wf E nx'
  | .bool _, _ => trivial
  | .int _ _, hv => hv
  | .str _, _ => trivial
  | .ptr _ _, hv => Nat.lt_of_lt_of_le hv h
  | .gptr _ _, _ => trivial
  | .nilp, _ => trivial
  | .sl _ _ _ _, hv => Nat.lt_of_lt_of_le hv h
  | .nils, _ => trivial
  | .func _ caps, hv => wfL_mono h caps hv
  | .nilf, _ => trivial
  | .agg cs, hv => wfL_mono h cs hv
  | .tup vs, hv => wfL_mono h vs hv
theorem wfL_mono {nx nx' : Nat} (h : nx ≤ nx') : ∀ l : List SV, wfL E nx l → wfL E nx' l
  | [], _ => trivial
  | v :: l, hv => ⟨SV.wf_mono h v hv.1, wfL_mono h l hv.2⟩
end
theorem cellsOf_den (v : SV) : (v.den E loc).cells = (denL E loc (cellsOf v)).toArray := by
  cases v <;> simp [SV.den, cellsOf, Value.cells, denL]
theorem cellsOf_wf {nx : Nat} {v : SV} (h : v.wf E nx) : wfL E nx (cellsOf v) := by
  cases v <;> first | exact h | exact ⟨h, trivial⟩
theorem oneC_den {v : SV} (h : oneC v = true) : (v.den E loc).oneCell' = true := by
  cases v <;> first | rfl | (simp [oneC] at h)
theorem allOne_den {l : List SV} (h : allOne l = true) : ∀ u ∈ denL E loc l, u.oneCell' = true := by
  induction l with
  | nil => simp [denL]
  | cons v l ih =>
    simp only [allOne] at h
    cases hv : oneC v <;> rw [hv] at h
    · cases h
    · intro u hu
      simp only [denL, List.mem_cons] at hu
      rcases hu with rfl | hu
      · exact oneC_den E loc hv
      · exact ih h u hu
theorem allOne_append {l m : List SV} : allOne (l ++ m) = true ↔ allOne l = true ∧ allOne m = true := by
  induction l with
  | nil => simp [allOne]
  | cons v l ih => simp only [List.cons_append, allOne]; cases oneC v <;> simp [ih]
theorem allOne_iff (l : List SV) : allOne l = true ↔ ∀ v ∈ l, oneC v = true := by
  induction l with
  | nil => simp [allOne]
  | cons v l ih => simp only [allOne, List.mem_cons, forall_eq_or_imp]; cases oneC v <;> simp [ih]
theorem denL_append (l m : List SV) : denL E loc (l ++ m) = denL E loc l ++ denL E loc m := by simp [denL_eq]
theorem denL_length (l : List SV) : (denL E loc l).length = l.length := by simp [denL_eq]

/-! a state -/
variable (P : Program) (G : Gl)
/-- block b is there, and as the symbolic heap has it -/
def BRel (w : World) (b : Nat) (k : SBlk) : Prop :=
  ∃ cur fz rest, w.heap[(loc b).1]? = some (.cells cur k.ty fz) ∧ (k.fr = false → fz = (0, 0)) ∧ cur.toList = denL E loc k.cells ++ rest ∧
    (k.ex = true → rest = []) ∧ (k.ex = false → cur.size = (loc b).2 * szOf P k.ty ∧ (loc b).2 ≤ maxLen ∧ ∃ n, k.cells.length = n * szOf P k.ty)
structure HRel (nx : Nat) (hp : Tr SBlk) (w : World) : Prop where
  lt : ∀ b k, hp.get b = some k → b < nx
  rel : ∀ b k, hp.get b = some k → BRel E loc P w b k
  wf : ∀ b k, hp.get b = some k → wfL E nx k.cells
  one : ∀ b k, hp.get b = some k → allOne k.cells = true
  inj : ∀ b k b' k', hp.get b = some k → hp.get b' = some k' → (loc b).1 = (loc b').1 → b = b'
def TRel (nx : Nat) (tm : Tr SV) (tmps : Array Value) : Prop :=
  ∀ t v, tm.get t = some v → tmps[t]? = some (v.den E loc) ∧ v.wf E nx
/-- the listed package-level variables -/
def KOk : Prop := (∀ p ∈ G.keys, p.1.den E = p.2.den E) ∧ ∀ s ∈ G.spl, s.1.den E ≠ 0 → ∃ c : Nat, c < s.2.2 ∧ s.2.1.den E = c
def GOk (w : World) : Prop := KOk E G ∧ ∀ g i v, (G.tab g).get i = some v → (∀ loc, w.cell? ⟨g, i, none⟩ = some (v.den E loc)) ∧ v.wf E 0 ∧ oneC v = true

theorem ofVal_ok {c : Value} {v : SV} (h : ofVal c = some v) (nx : Nat) : v.den E loc = c ∧ v.wf E nx := by
  cases c <;> simp only [ofVal] at h <;> try (cases h; done)
  case bool b => cases h; cases b <;> exact ⟨rfl, trivial⟩
  case int k n =>
    cases h1 : intLt n k.min <;> rw [h1] at h
    · cases h2 : intLt k.max n <;> rw [h2] at h
      · cases h
        refine ⟨rfl, ?_⟩
        have a1 : ¬ n < k.min := fun e => by rw [(intLt_iff _ _).2 e] at h1; cases h1
        have a2 : ¬ k.max < n := fun e => by rw [(intLt_iff _ _).2 e] at h2; cases h2
        show k.min ≤ n ∧ n ≤ k.max
        omega
      · cases h
    · cases h
  case string s => cases h; exact ⟨by simp [SV.den], trivial⟩
  case pointer a => cases a <;> cases h; exact ⟨rfl, trivial⟩
  case slice a n c =>
    cases a with
    | some a => cases h
    | none =>
      simp only at h
      cases h1 : Nat.beq n 0 <;> rw [h1] at h
      · cases h
      · cases h2 : Nat.beq c 0 <;> rw [h2] at h
        · cases h
        · cases h
          rw [Nat.eq_of_beq_eq_true h1, Nat.eq_of_beq_eq_true h2]
          exact ⟨rfl, trivial⟩
  case nilFunc => cases h; exact ⟨rfl, trivial⟩
theorem opv_ok {nx : Nat} {tm : Tr SV} {a : Act} (ht : TRel E loc nx tm a.tmps) {x : Operand} {v : SV} (h : opv tm x = some v) : a.eval x = v.den E loc ∧ v.wf E nx := by
  cases x with
  | tmp t =>
    obtain ⟨h1, h2⟩ := ht t v h
    exact ⟨by simp [Act.eval, h1], h2⟩
  | const c => obtain ⟨h1, h2⟩ := ofVal_ok E loc h nx; exact ⟨h1.symm, h2⟩
  | global g => cases h; exact ⟨rfl, trivial⟩
  | func f => cases h; exact ⟨rfl, trivial⟩
theorem opsv_ok {nx : Nat} {tm : Tr SV} {a : Act} (ht : TRel E loc nx tm a.tmps) : ∀ {l : List Operand} {vs : List SV}, opsv tm l = some vs → l.map a.eval = denL E loc vs ∧ wfL E nx vs := by
  intro l
  induction l with
  | nil => intro vs h; cases h; exact ⟨rfl, trivial⟩
  | cons x l ih =>
    intro vs h
    simp only [opsv] at h
    cases hv : opv tm x with
    | none => rw [hv] at h; cases h
    | some v =>
      cases hus : opsv tm l with
      | none => rw [hv, hus] at h; cases h
      | some us =>
        rw [hv, hus] at h
        cases h
        obtain ⟨h1, h2⟩ := opv_ok E loc ht hv
        obtain ⟨h3, h4⟩ := ih hus
        exact ⟨by simp [denL, h1, h3], h2, h4⟩
theorem litN_ok {v : SV} {n : Nat} (h : litN v = some n) : ∃ k, v = .int k (.lit (.ofNat n)) := by
  unfold litN at h
  repeat' (split at h)
  all_goals first | (cases h; done) | (cases h; exact ⟨_, rfl⟩)
theorem opN_ok {nx : Nat} {tm : Tr SV} {a : Act} (ht : TRel E loc nx tm a.tmps) {x : Operand} {n : Nat} (h : opN tm x = some n) : ∃ k, a.eval x = .int k (n : Int) ∧ inR k (n : Int) := by
  unfold opN at h
  split at h
  · rename_i v hv
    obtain ⟨k, rfl⟩ := litN_ok h
    obtain ⟨h1, h2⟩ := opv_ok E loc ht hv
    exact ⟨k, h1, h2⟩
  · cases h

end Sx
end Go.Proofs.YtfdggebddcoeeaaGreatDoor
end
