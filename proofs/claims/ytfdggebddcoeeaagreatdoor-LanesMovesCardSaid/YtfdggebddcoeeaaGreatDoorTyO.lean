/-
  Code, but for regions that draw their order.
-/
import Derived.Test.YtfdggebddcoeeaaGreatDoorTyN
import Derived.LoopN
set_option linter.unusedVariables false
set_option linter.unusedSimpArgs false
noncomputable section
namespace Go.Proofs.YtfdggebddcoeeaaGreatDoor
namespace Sx
open Go Go.RowKit
variable {E : Env} {P : Program} {G : Gl} {F : Fr}

def dstIn (n : Nat) : List Oper → Bool
  | [] => true
  | o :: l => cond (match o.dst with
    | some t => Nat.blt t n
    | none => true) (dstIn n l) false
def boundC (n : Nat) : Code → Bool
  | .region _ ops _ => dstIn n ops.toList
  | .seq a b => cond (boundC n a) (boundC n b) false
  | .cond _ a b => cond (boundC n a) (boundC n b) false
  | .block _ a => boundC n a
  | .loop a => boundC n a
  | _ => true
theorem dstIn_ok {n : Nat} : ∀ {l : List Oper}, dstIn n l = true → ∀ o ∈ l, ∀ t, o.dst = some t → t < n := by
  intro l
  induction l with
  | nil => intro _ o h; cases h
  | cons o l ih =>
    intro h o' ho' t ht
    simp only [dstIn] at h
    cases h1 : (match o.dst with | some t => Nat.blt t n | none => true) <;> rw [h1] at h <;> try (cases h; done)
    rcases List.mem_cons.1 ho' with rfl | ho'
    · rw [ht] at h1; exact blt_lt h1
    · exact ih h o' ho' t ht

theorem bind_ok {k : K} {X : (Exit → Act → World → Prop) → Act → World → Prop} (hk : ROk E P F k X) : ∀ {o1 out : Out}, o1.bindN k = some out → ∀ {Q : Exit → Act → World → Prop}, (∀ e a w, Post E P F out e a w → Q e a w) →
    ∀ e a w, Post E P F o1 e a w → Exit.then (X Q) Q e a w := by
  intro o1
  induction o1 with
  | done ex tm hp nx =>
    intro out h Q hQ e a w hp'
    obtain ⟨rfl, loc, s⟩ := hp'
    cases ex with
    | normal => exact hk _ _ _ _ h loc a w s Q hQ
    | exit i => cases h; exact hQ _ _ _ ⟨rfl, loc, s⟩
    | ret => cases h; exact hQ _ _ _ ⟨rfl, loc, s⟩
  | split c t f iht ihf =>
    intro out h Q hQ e a w hp'
    simp only [Out.bindN] at h
    cases h1 : t.bindN k with
    | none => rw [h1] at h; cases h
    | some t' =>
      cases h2 : f.bindN k with
      | none => rw [h1, h2] at h; cases h
      | some f' =>
        rw [h1, h2] at h
        cases h
        by_cases hc : c.den E = 0
        · exact ihf h2 (fun e a w hp => hQ e a w ⟨fun h0 => absurd hc h0, fun _ => hp⟩) e a w (hp'.2 hc)
        · exact iht h1 (fun e a w hp => hQ e a w ⟨fun _ => hp, fun h0 => absurd h0 hc⟩) e a w (hp'.1 hc)
theorem mapE_ok {id : Nat} : ∀ {o1 : Out}, ∀ {Q : Exit → Act → World → Prop}, (∀ e a w, Post E P F (o1.mapE id) e a w → Q e a w) →
    ∀ e a w, Post E P F o1 e a w → Exit.inBlock id Q e a w := by
  intro o1
  induction o1 with
  | done ex tm hp nx =>
    intro Q hQ e a w hp'
    obtain ⟨rfl, loc, s⟩ := hp'
    cases ex with
    | normal => exact hQ _ _ _ ⟨rfl, loc, s⟩
    | exit i =>
      show if i = id then Q .normal a w else Q (.exit i) a w
      by_cases hi : i = id
      · rw [if_pos hi]
        refine hQ _ _ _ ⟨?_, loc, s⟩
        subst hi
        simp [unExit, Ex.conv]
      · rw [if_neg hi]
        refine hQ _ _ _ ⟨?_, loc, s⟩
        have : Nat.beq i id = false := by
          cases h : Nat.beq i id
          · rfl
          · exact absurd (Nat.eq_of_beq_eq_true h) hi
        simp [unExit, this, Ex.conv]
    | ret => exact hQ _ _ _ ⟨rfl, loc, s⟩
  | split c t f iht ihf =>
    intro Q hQ e a w hp'
    by_cases hc : c.den E = 0
    · exact ihf (fun e a w hp => hQ e a w ⟨fun h0 => absurd hc h0, fun _ => hp⟩) e a w (hp'.2 hc)
    · exact iht (fun e a w hp => hQ e a w ⟨fun _ => hp, fun h0 => absurd h0 hc⟩) e a w (hp'.1 hc)
theorem bindO_some {o : Option Out} {k : K} {out : Out} (h : bindO o k = some out) : ∃ o1, o = some o1 ∧ o1.bindN k = some out := by
  cases o with
  | none => cases h
  | some o1 => exact ⟨o1, rfl, h⟩

theorem findS_ok : ∀ {l : List (SE × SE × Nat)} {e k : SE} {n : Nat}, findS l e = some (k, n) → (e, k, n) ∈ l := by
  intro l
  induction l with
  | nil => intro e k n h; cases h
  | cons s l ih =>
    obtain ⟨x, k', n'⟩ := s
    intro e k n h
    simp only [findS] at h
    cases h1 : SE.beq x e <;> rw [h1] at h
    · exact List.mem_cons_of_mem _ (ih h)
    · cases h
      rw [SE.beq_eq h1]
      exact List.mem_cons_self
theorem subT_get {k : SE} {c : Nat} : ∀ {tm : Tr SV} {t : Nat} {v : SV}, (subT k c tm).get t = some v → ∃ u, tm.get t = some u ∧ v = subV k c u := by
  intro tm
  induction tm with
  | lf => intro t v h; cases h
  | nd l x r ihl ihr =>
    intro t v h
    cases t with
    | zero =>
      have h' : subO k c x = some v := h
      cases x with
      | none => cases h'
      | some u => cases h'; exact ⟨u, rfl, rfl⟩
    | succ j =>
      simp only [subT] at h
      cases hb : Nat.beq (Nat.mod j 2) 0
      · rw [Tr.get_odd _ _ _ _ hb] at h ⊢; exact ihr h
      · rw [Tr.get_even _ _ _ _ hb] at h ⊢; exact ihl h
theorem subV_ok {k : SE} {c : Nat} (hk : k.den E = c) (loc : Nat → Nat × Nat) (nx : Nat) (u : SV) : (subV k c u).den E loc = u.den E loc ∧ (u.wf E nx → (subV k c u).wf E nx) := by
  cases u <;> try exact ⟨rfl, id⟩
  rename_i i e
  simp only [subV]
  cases h : SE.beq k e
  · exact ⟨rfl, id⟩
  · have h1 := SE.beq_eq h
    subst h1
    have h2 : (SE.lit (Int.ofNat c)).den E = k.den E := by rw [hk]; rfl
    exact ⟨by simp only [cond, SV.den, h2], fun hw => by simp only [cond, SV.wf, h2]; exact hw⟩
theorem St.sub {k : SE} {c : Nat} (hk : k.den E = c) {loc : Nat → Nat × Nat} {tm : Tr SV} {hp : Tr SBlk} {nx : Nat} {a : Act} {w : World} (s : St E P F loc tm hp nx a w) : St E P F loc (subT k c tm) hp nx a w :=
  ⟨s.size, s.defs, fun t v h => (by
    obtain ⟨u, h1, h2⟩ := subT_get h
    obtain ⟨h3, h4⟩ := s.tr t u h1
    obtain ⟨h5, h6⟩ := subV_ok hk loc nx u
    subst h2
    exact ⟨by rw [h5]; exact h3, h6 h4⟩), s.hr, s.le, s.bel, s.own, s.agree⟩
theorem spread_ok {k : SE} {run : Tr SV → Option Out} {tm : Tr SV} {X : (Exit → Act → World → Prop) → Prop}
    (hrun : ∀ (c : Nat) (o : Out), k.den E = c → run (subT k c tm) = some o → ∀ Q : Exit → Act → World → Prop, (∀ e a w, Post E P F o e a w → Q e a w) → X Q) :
    ∀ (n : Nat) (out : Out), spread k run tm n = some out → ∀ c : Nat, c < n → k.den E = c → ∀ Q : Exit → Act → World → Prop, (∀ e a w, Post E P F out e a w → Q e a w) → X Q := by
  intro n
  induction n with
  | zero => intro out h; cases h
  | succ m ih =>
    intro out h c hc hk Q hQ
    cases m with
    | zero =>
      have h0 : c = 0 := by omega
      subst h0
      exact hrun 0 out hk h Q hQ
    | succ j =>
      simp only [spread] at h
      obtain ⟨o1, o2, h1, h2, rfl⟩ := mgOO_some h
      by_cases hcj : c = j + 1
      · subst hcj
        refine hrun (j + 1) o1 hk h1 Q fun e a w hp => hQ e a w (mgO_left ?_ hp)
        rw [mkEq_den, hk]
        simp [SE.den]
      · refine ih o2 h2 c (by omega) hk Q fun e a w hp => hQ e a w (mgO_right ?_ hp)
        rw [mkEq_den, hk, if_neg]
        simp only [SE.den, Int.ofNat_eq_natCast]
        omega

theorem exec_ok {cf : CF} (hcf : CFOk E P G cf) (hg : GOk E G F.w0)
    (hdraw : ∀ id ops, dstIn F.n ops.toList = true → ROk E P F (runR P G cf F.lo ops true) (fun Q a w => (Code.region id ops true).wp P Q a w)) :
    ∀ {c : Code}, boundC F.n c = true → ROk E P F (exec P G cf F.lo c) (fun Q a w => c.wp P Q a w) := by
  intro c
  induction c with
  | skip =>
    intro _ tm hp nx out h loc a w s Q hQ
    cases h
    exact wp_skip (hQ _ _ _ ⟨rfl, loc, s⟩)
  | region id ops draw =>
    intro hb
    cases draw with
    | true => exact hdraw id ops hb
    | false =>
      intro tm hp nx out h loc a w s Q hQ
      exact wp_region_list (runL_ok hcf hg (dstIn_ok hb) _ _ _ _ h loc a w s Q hQ)
  | seq x y ihx ihy =>
    intro hb tm hp nx out h loc a w s Q hQ
    simp only [boundC] at hb
    cases hbx : boundC F.n x <;> rw [hbx] at hb <;> try (cases hb; done)
    simp only [exec] at h
    obtain ⟨o1, h1, h2⟩ := bindO_some h
    exact wp_seq (ihx hbx _ _ _ _ h1 loc a w s _ (bind_ok (ihy hb) h2 hQ))
  | cond x y z ihy ihz =>
    intro hb tm hp nx out h loc a w s Q hQ
    simp only [boundC] at hb
    cases hby : boundC F.n y <;> rw [hby] at hb <;> try (cases hb; done)
    simp only [exec, condO] at h
    cases hv : opv tm x with
    | none => rw [hv] at h; cases h
    | some v =>
      rw [hv] at h
      cases v <;> simp only at h <;> try (cases h; done)
      rename_i e
      obtain ⟨a1, a2⟩ := opv_ok E loc s.tr hv
      have gen : (match findS G.spl e with
          | some (k, n) => mgOO e (spread k (fun tm => exec P G cf F.lo y tm hp nx) tm n) (exec P G cf F.lo z tm hp nx)
          | none => mgOO e (exec P G cf F.lo y tm hp nx) (exec P G cf F.lo z tm hp nx)) = some out → (Code.cond x y z).wp P Q a w := by
        intro h
        split at h
        · rename_i k n hf
          obtain ⟨o1, o2, h1, h2, rfl⟩ := mgOO_some h
          refine wp_cond_split a1 (fun ht => ?_) (fun hf => ?_)
          · have hc : e.den E ≠ 0 := of_decide_eq_true ht
            obtain ⟨c, hcn, hkc⟩ := hg.1.2 _ (findS_ok hf) hc
            exact spread_ok (X := fun Q => y.wp P Q a w) (fun c o hk hr Q hQ => ihy hby _ _ _ _ hr loc a w (s.sub hk) Q hQ) n o1 h1 c hcn hkc _ fun e a w hp => hQ e a w (mgO_left hc hp)
          · have hc : e.den E = 0 := by simpa using hf
            exact ihz hb _ _ _ _ h2 loc a w s Q fun e a w hp => hQ e a w (mgO_right hc hp)
        · obtain ⟨o1, o2, h1, h2, rfl⟩ := mgOO_some h
          refine wp_cond_split a1 (fun ht => ?_) (fun hf => ?_)
          · have hc : e.den E ≠ 0 := of_decide_eq_true ht
            exact ihy hby _ _ _ _ h1 loc a w s Q fun e a w hp => hQ e a w (mgO_left hc hp)
          · have hc : e.den E = 0 := by simpa using hf
            exact ihz hb _ _ _ _ h2 loc a w s Q fun e a w hp => hQ e a w (mgO_right hc hp)
      cases e <;> try exact gen h
      rename_i n
      simp only at h
      cases h0 : int0 n <;> rw [h0] at h
      · have hn : n ≠ 0 := fun e => by rw [(int0_iff n).2 e] at h0; cases h0
        refine wp_cond_split a1 (fun _ => ihy hby _ _ _ _ h loc a w s Q hQ) (fun hf => ?_)
        exact absurd hn (of_decide_eq_false hf)
      · have hn : n = 0 := (int0_iff n).1 h0
        refine wp_cond_split a1 (fun ht => ?_) (fun _ => ihz hb _ _ _ _ h loc a w s Q hQ)
        exact absurd hn (of_decide_eq_true ht)
  | block id x ih =>
    intro hb tm hp nx out h loc a w s Q hQ
    simp only [exec] at h
    cases h1 : exec P G cf F.lo x tm hp nx with
    | none => rw [h1] at h; cases h
    | some o1 =>
      rw [h1] at h
      cases h
      exact wp_block (ih hb _ _ _ _ h1 loc a w s _ (mapE_ok hQ))
  | loop x ih =>
    intro hb tm hp nx out h loc a w s Q hQ
    simp only [exec] at h
    have key : ∀ n, ROk E P F (loopN (exec P G cf F.lo x) n) (fun Q a w => Code.rounds P x Q n a w) := by
      intro n
      induction n with
      | zero => intro tm hp nx out h; cases h
      | succ n ihn =>
        intro tm hp nx out h loc a w s Q hQ
        simp only [loopN] at h
        obtain ⟨o1, h1, h2⟩ := bindO_some h
        exact ih hb _ _ _ _ h1 loc a w s _ (bind_ok ihn h2 hQ)
    exact wp_loop_rounds rounds (key rounds _ _ _ _ h loc a w s Q hQ)
  | exit id =>
    intro _ tm hp nx out h loc a w s Q hQ
    cases h
    exact wp_exit (hQ _ _ _ ⟨rfl, loc, s⟩)
  | ret =>
    intro _ tm hp nx out h loc a w s Q hQ
    cases h
    exact wp_ret (hQ _ _ _ ⟨rfl, loc, s⟩)
  | _ => intro _ tm hp nx out h; cases h

end Sx
end Go.Proofs.YtfdggebddcoeeaaGreatDoor
end
