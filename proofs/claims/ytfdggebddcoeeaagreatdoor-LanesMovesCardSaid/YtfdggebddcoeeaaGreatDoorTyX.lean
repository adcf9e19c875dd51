/-
  Regions that draw their order, proved.
-/
import Derived.Test.YtfdggebddcoeeaaGreatDoorTyW
set_option linter.unusedVariables false
set_option linter.unusedSimpArgs false
noncomputable section
namespace Go.Proofs.YtfdggebddcoeeaaGreatDoor
namespace Sx
open Go Go.RowKit
variable {E : Env} {P : Program} {G : Gl} {F : Fr}

theorem post_noPanic : ∀ {out : Out} {c : List PanicEntry} {a : Act} {w : World}, ¬ Post E P F out (.panic c) a w := by
  intro out
  induction out with
  | done ex tm hp nx => intro c a w h; obtain ⟨h, _⟩ := h; cases ex <;> cases h
  | split c t f iht ihf =>
    intro ch a w h
    by_cases hc : c.den E = 0
    · exact ihf (h.2 hc)
    · exact iht (h.1 hc)
theorem isSil_ok {c : Cls} (h : isSil c = true) : ∃ f, c = .sil f := by cases c <;> simp [isSil] at h; exact ⟨_, rfl⟩

/-- a silent operation taken first -/
theorem take_ok (hg : GOk E G F.w0) {cf : CF} {ops : Array Oper} {o : Oper} (hd : ∀ t, o.dst = some t → t < F.n) (hsil : isSil (cls P G o.op) = true) {ih : K} {tm : Tr SV} {hp : Tr SBlk} {nx : Nat} {out : Out}
    (h : runO P G cf F.lo ops o ih tm hp nx = some out) {loc : Nat → Nat × Nat} {a : Act} {w : World} (s : St E P F loc tm hp nx a w) :
    ∃ (v : SV) (tm' : Tr SV) (out' : Out), ih tm' hp nx = some out' ∧ St E P F loc tm' hp nx (a.put o.dst (v.den E loc)) w ∧ (∀ e a w, Post E P F out' e a w → Post E P F out e a w) ∧
      YieldsIf P ops (fun w' => isLoad o.op = true → Below w.heap.size w w') o (v.den E loc) a := by
  obtain ⟨f, hf⟩ := isSil_ok hsil
  have hrun : ∀ {tm out}, runC cf F.lo (cls P G o.op) o.dst ih tm hp nx = some out → St E P F loc tm hp nx a w → Region.wanted o (yielded ops a.tmps) = true →
      ∃ (v : SV) (tm' : Tr SV), ih tm' hp nx = some out ∧ St E P F loc tm' hp nx (a.put o.dst (v.den E loc)) w ∧ YieldsIf P ops (fun w' => isLoad o.op = true → Below w.heap.size w w') o (v.den E loc) a := by
    intro tm out h s hw
    rw [hf] at h
    simp only [runC] at h
    cases hv : f tm hp with
    | none => rw [hv] at h; cases h
    | some v =>
      rw [hv] at h
      simp only [silK] at h
      cases hl : isLoad o.op
      · have hN := fun w' => silN_ok E loc P G hg.1 hf hl s.tr hv s.hr w'
        exact ⟨v, _, h, s.sil hd (hN w).2, .inl ⟨hw, fun w' _ => (hN w').1⟩⟩
      · have hL := silL_ok E loc P G hf hl s.tr hv s.hr (s.gok hg)
        refine ⟨v, _, h, s.sil hd hL.2, .inl ⟨hw, fun w' hS => ?_⟩⟩
        have hb := hS rfl
        exact (silL_ok E loc P G hf hl s.tr hv (hrel_below s.hr hb) (gok_below E G (s.gok hg) hb)).1
  have hskip : ∀ {tm out}, ih (putO o.dst (.tup []) tm) hp nx = some out → St E P F loc tm hp nx a w → Region.wanted o (yielded ops a.tmps) = false →
      ∃ (v : SV) (tm' : Tr SV), ih tm' hp nx = some out ∧ St E P F loc tm' hp nx (a.put o.dst (v.den E loc)) w ∧ YieldsIf P ops (fun w' => isLoad o.op = true → Below w.heap.size w w') o (v.den E loc) a := by
    intro tm out h s hw
    exact ⟨.tup [], _, h, s.sil hd (v := .tup []) trivial, .inr ⟨hw, rfl⟩⟩
  have lift : ∀ {out'}, (∀ e a w, Post E P F out' e a w → Post E P F out e a w) → (∃ (v : SV) (tm' : Tr SV), ih tm' hp nx = some out' ∧ St E P F loc tm' hp nx (a.put o.dst (v.den E loc)) w ∧ YieldsIf P ops (fun w' => isLoad o.op = true → Below w.heap.size w w') o (v.den E loc) a) →
      ∃ (v : SV) (tm' : Tr SV) (out' : Out), ih tm' hp nx = some out' ∧ St E P F loc tm' hp nx (a.put o.dst (v.den E loc)) w ∧ (∀ e a w, Post E P F out' e a w → Post E P F out e a w) ∧
      YieldsIf P ops (fun w' => isLoad o.op = true → Below w.heap.size w w') o (v.den E loc) a := fun hp ⟨v, tm', h1, h2, h3⟩ => ⟨v, tm', _, h1, h2, hp, h3⟩
  unfold runO at h
  cases hgu : o.guard with
  | none =>
    rw [hgu] at h
    exact lift (fun _ _ _ h => h) (hrun h s (by simp [Region.wanted, hgu]))
  | some gw =>
    obtain ⟨j, want⟩ := gw
    rw [hgu] at h
    simp only [runG] at h
    cases hdst : guardDst ops j with
    | none => rw [hdst] at h; cases h
    | some g =>
      rw [hdst] at h
      simp only at h
      cases hv : tm.get g with
      | none => rw [hv] at h; cases h
      | some v =>
        rw [hv] at h
        have htup : ∀ l, v = .tup l → ∃ (v : SV) (tm' : Tr SV) (out' : Out), ih tm' hp nx = some out' ∧ St E P F loc tm' hp nx (a.put o.dst (v.den E loc)) w ∧ (∀ e a w, Post E P F out' e a w → Post E P F out e a w) ∧
            YieldsIf P ops (fun w' => isLoad o.op = true → Below w.heap.size w w') o (v.den E loc) a := fun l hl => by
          subst hl
          simp only at h
          cases l with
          | cons _ _ => cases h
          | nil =>
            have hy := yielded_none hdst (s.tr g _ hv).1
            exact lift (fun _ _ _ h => h) (hskip h s (by simp [Region.wanted, hgu, hy]))
        cases v <;> (try exact htup _ rfl) <;> simp only at h <;> try (cases h; done)
        rename_i e
        obtain ⟨t1, t2⟩ := s.tr g _ hv
        have hy := yielded_ok hdst t1
        have hw : Region.wanted o (yielded ops a.tmps) = (decide (e.den E ≠ 0) == want) := by
          simp only [Region.wanted, hgu, hy]
          cases decide (e.den E ≠ 0) <;> cases want <;> rfl
        have gen : (cond want
            (mgOO e (runC cf F.lo (cls P G o.op) o.dst ih (tm.set g (.bool (.lit 1))) hp nx) (ih (putO o.dst (.tup []) (tm.set g (.bool (.lit 0)))) hp nx))
            (mgOO e (ih (putO o.dst (.tup []) (tm.set g (.bool (.lit 1)))) hp nx) (runC cf F.lo (cls P G o.op) o.dst ih (tm.set g (.bool (.lit 0))) hp nx))) = some out →
            ∃ (v : SV) (tm' : Tr SV) (out' : Out), ih tm' hp nx = some out' ∧ St E P F loc tm' hp nx (a.put o.dst (v.den E loc)) w ∧ (∀ e a w, Post E P F out' e a w → Post E P F out e a w) ∧
              YieldsIf P ops (fun w' => isLoad o.op = true → Below w.heap.size w w') o (v.den E loc) a := by
          intro h
          have s1 : e.den E ≠ 0 → St E P F loc (tm.set g (.bool (.lit 1))) hp nx a w := fun hc => s.same hv (by simp [SV.den, SE.den, hc]) trivial
          have s0 : e.den E = 0 → St E P F loc (tm.set g (.bool (.lit 0))) hp nx a w := fun hc => s.same hv (by simp [SV.den, SE.den, hc]) trivial
          cases want
          · simp only [Bool.cond_false] at h
            obtain ⟨o1, o2, h1, h2, rfl⟩ := mgOO_some h
            by_cases hc : e.den E = 0
            · exact lift (fun e a w hp => mgO_right hc hp) (hrun h2 (s0 hc) (by rw [hw]; simp [hc]))
            · exact lift (fun e a w hp => mgO_left hc hp) (hskip h1 (s1 hc) (by rw [hw]; simp [hc]))
          · simp only [Bool.cond_true] at h
            obtain ⟨o1, o2, h1, h2, rfl⟩ := mgOO_some h
            by_cases hc : e.den E = 0
            · exact lift (fun e a w hp => mgO_right hc hp) (hskip h2 (s0 hc) (by rw [hw]; simp [hc]))
            · exact lift (fun e a w hp => mgO_left hc hp) (hrun h1 (s1 hc) (by rw [hw]; simp [hc]))
        cases e <;> try exact gen h
        rename_i n
        simp only at h
        cases h0 : int0 n
        · have hn : n ≠ 0 := fun e => by rw [(int0_iff n).2 e] at h0; cases h0
          rw [h0] at h
          cases want
          · exact lift (fun _ _ _ h => h) (hskip h s (by rw [hw]; simp [SE.den, hn]))
          · exact lift (fun _ _ _ h => h) (hrun h s (by rw [hw]; simp [SE.den, hn]))
        · have hn : n = 0 := (int0_iff n).1 h0
          rw [h0] at h
          cases want
          · exact lift (fun _ _ _ h => h) (hrun h s (by rw [hw]; simp [SE.den, hn]))
          · exact lift (fun _ _ _ h => h) (hskip h s (by rw [hw]; simp [SE.den, hn]))

variable (P G) in
abbrev silF (ops : Array Oper) : Nat → Bool := fun j => isSil (cls P G (opAt ops j))
variable (P G) in
/-- the facts of those taken first -/
def COk (ops : Array Oper) (C : List (Nat × (World → Prop))) (pd : List Nat) (w : World) (T : Array Bool) : Prop :=
  ∀ c ∈ C, ∃ (l : Bool) (wp : World), c.2 = (fun w' => l = true → Below wp.heap.size wp w') ∧ (l = true → c.1 ∈ pd) ∧ (l = true → Below wp.heap.size wp w ∨ ¬ MayPend ops (silF P G ops) T c.1)
theorem opAt_eq {ops : Array Oper} {i : Nat} {o : Oper} (h : ops[i]? = some o) : opAt ops i = o.op := by simp [opAt, h]
/-- what the theorem says at one schedule -/
def Good (E : Env) (P : Program) (G : Gl) (F : Fr) (cf : CF) (ops : Array Oper) (n : Nat) (T : Array Bool) (pd : List Nat) (t : Sch) : Prop :=
  ∀ tm hp nx out, runS P G cf F.lo ops t tm hp nx = some out → ∀ loc a w, St E P F loc tm hp nx a w → ∀ C, COk P G ops C pd w T → ∀ Q : Exit → Act → World → Prop, (∀ c a w, ¬ Q (.panic c) a w) → (∀ e a w, Post E P F out e a w → Q e a w) →
    DW P ops Q (silF P G ops) n T C a w
theorem one_ok {cf : CF} (hcf : CFOk E P G cf) (hg : GOk E G F.w0) {ops : Array Oper} (hd : dstIn F.n ops.toList = true) {n : Nat} {T : Array Bool} {pd : List Nat} {t : Sch} (hcl : ClosedP ops (Up T)) {i : Nat} (hi : i ∈ Region.ready .any ops T)
    (ih : Good E P G F cf ops n (T.setIfInBounds i true) pd t) (hwr : isWrt (cls P G (opAt ops i)) = true → ∀ p ∈ pd, ¬ MayPend ops (silF P G ops) (T.setIfInBounds i true) p)
    {tm : Tr SV} {hp : Tr SBlk} {nx : Nat} {out : Out} (h : runI P G cf F.lo ops i (runS P G cf F.lo ops t) tm hp nx = some out) {loc : Nat → Nat × Nat} {a : Act} {w : World} (s : St E P F loc tm hp nx a w)
    {C : List (Nat × (World → Prop))} (hC : COk P G ops C pd w T) {Q : Exit → Act → World → Prop} (hQp : ∀ c a w, ¬ Q (.panic c) a w) (hQ : ∀ e a w, Post E P F out e a w → Q e a w) :
    wpOp P ops Q i (fun a' w' => (∀ c ∈ C, MayPend ops (silF P G ops) (T.setIfInBounds i true) c.1 → c.2 w') ∧ DW P ops Q (silF P G ops) n (T.setIfInBounds i true) C a' w') a w := by
  obtain ⟨_, o, ho, _⟩ := mem_ready.1 hi
  unfold runI at h
  rw [ho] at h
  simp only at h
  have hdo := dstIn_ok hd o (Array.mem_toList_iff.2 (Array.mem_of_getElem? ho))
  have key := runO_ok (X := fun Q' a' w' => (∀ c a w, ¬ Q' (.panic c) a w) → ((∀ c ∈ C, MayPend ops (silF P G ops) (T.setIfInBounds i true) c.1 → c.2 w') ∧ DW P ops Q' (silF P G ops) n (T.setIfInBounds i true) C a' w')) hcf hg hdo
    (w := w) (ih := runS P G cf F.lo ops t) (fun tm' hp' nx' out' h' loc' a' w' s' hR Q' hQ' hp => by
      have fact : ∀ c ∈ C, MayPend ops (silF P G ops) (T.setIfInBounds i true) c.1 → ∀ (l : Bool) (wp : World), (l = true → c.1 ∈ pd) → (l = true → Below wp.heap.size wp w ∨ ¬ MayPend ops (silF P G ops) T c.1) → l = true → Below wp.heap.size wp w' := by
        intro c hc hm l wp h2 h3 hl
        rcases h3 hl with h4 | h4
        · cases hw : isWrt (cls P G o.op)
          · exact h4.trans ((hR hw).mono h4.size)
          · exact absurd hm (hwr (by rw [opAt_eq ho]; exact hw) c.1 (h2 hl))
        · exact absurd (mayPend_less hcl (ready_not hi).1 hm) h4
      refine ⟨fun c hc hm => ?_, ih tm' hp' nx' out' h' loc' a' w' s' C (fun c hc => ?_) Q' hp hQ'⟩
      · obtain ⟨l, wp, h1, h2, h3⟩ := hC c hc
        rw [h1]
        exact fact c hc hm l wp h2 h3
      · obtain ⟨l, wp, h1, h2, h3⟩ := hC c hc
        refine ⟨l, wp, h1, h2, fun hl => ?_⟩
        by_cases hm : MayPend ops (silF P G ops) (T.setIfInBounds i true) c.1
        · exact .inl (fact c hc hm l wp h2 h3 hl)
        · exact .inr hm) h s hQ
  unfold wpOp
  rw [ho]
  simp only
  split
  · rename_i hw
    rw [if_pos hw] at key
    exact .inl (Oper.wp_mono (fun a w hk => hk hQp) key)
  · rename_i hw
    rw [if_neg hw] at key
    exact key hQp

theorem sch_ok {cf : CF} (hcf : CFOk E P G cf) (hg : GOk E G F.w0) {ops : Array Oper} (hd : dstIn F.n ops.toList = true) (hns : Region.noSelect ops = true) :
    ∀ (n : Nat) (T : Array Bool) (pd : List Nat) (t : Sch), mkSch P G ops n T pd = some t → ClosedP ops (Up T) → Good E P G F cf ops n T pd t := by
  intro n
  induction n with
  | zero =>
    intro T pd t ht _ tm hp nx out h loc a w s C _ Q _ hQ
    simp only [mkSch] at ht
    split at ht
    · rename_i hr
      cases ht
      cases h
      exact ⟨hr, hQ _ _ _ ⟨rfl, loc, s⟩⟩
    · cases ht
  | succ n ihn =>
    intro T pd t ht hcl tm hp nx out h loc a w s C hC Q hQp hQ
    simp only [mkSch] at ht
    split at ht
    · rename_i hr
      cases ht
      cases h
      exact ⟨fun _ => hQ _ _ _ ⟨rfl, loc, s⟩, fun j hj => by rw [hr] at hj; cases hj⟩
    · rename_i hne
      split at ht
      · rename_i i hfind
        obtain ⟨hi, hsil, hfree⟩ := findTake_ok hfind
        split at ht
        · rename_i t' ht'
          cases ht
          obtain ⟨_, o, ho, _⟩ := mem_ready.1 hi
          simp only [runS, runI, ho] at h
          have hdo := dstIn_ok hd o (Array.mem_toList_iff.2 (Array.mem_of_getElem? ho))
          rw [opAt_eq ho] at hsil ht'
          obtain ⟨v, tm', out', h1, h2, h3, h4⟩ := take_ok hg hdo hsil h s
          have hbel : isLoad o.op = true → Below w.heap.size w w := fun _ => Below.refl _ w
          refine DW.first ho (Region.noSelect_spec hns) hQp (by show isSil (cls P G (opAt ops i)) = true; rw [opAt_eq ho]; exact hsil) n T C a w hcl (Region.free_spec ho hfree) hi h4 hbel (fun c hc hm => ?_) ?_
          · obtain ⟨l, wp, e1, e2, e3⟩ := hC c hc
            rw [e1]
            intro hl
            exact (e3 hl).resolve_right fun hn => hn hm
          · refine ihn _ _ _ ht' (closed_set hcl hi) tm' hp nx out' h1 loc _ w h2 _ (fun c hc => ?_) Q hQp fun e a w hp => hQ e a w (h3 e a w hp)
            rcases List.mem_cons.1 hc with rfl | hc
            · refine ⟨isLoad o.op, w, rfl, fun hl => ?_, fun hl => .inl (Below.refl _ w)⟩
              rw [hl]; exact List.mem_cons_self
            · obtain ⟨l, wp, e1, e2, e3⟩ := hC c hc
              refine ⟨l, wp, e1, fun hl => ?_, fun hl => (e3 hl).imp id fun hn hm => hn (mayPend_less hcl (ready_not hi).1 hm)⟩
              have := e2 hl
              cases isLoad o.op
              · exact this
              · exact List.mem_cons_of_mem _ this
        · cases ht
      · split at ht
        · rename_i i hr
          have hi : i ∈ Region.ready .any ops T := by rw [hr]; exact List.mem_cons_self
          split at ht
          · rename_i t' ht'
            cases hwp : (isWrt (cls P G (opAt ops i)) && pd.any (pendB P G ops (T.setIfInBounds i true))) <;> rw [hwp] at ht <;> try (cases ht; done)
            cases ht
            simp only [runS] at h
            refine ⟨fun h0 => absurd h0 (by rw [hr]; simp), fun j hj => ?_⟩
            rw [hr] at hj
            have hji : j = i := by simpa using hj
            subst hji
            refine one_ok hcf hg hd hcl hi (ihn _ _ _ ht' (closed_set hcl hi)) (fun hw p hp' hm => ?_) h s hC hQp hQ
            rw [hw, Bool.true_and] at hwp
            have hall : ∀ x ∈ pd, ¬ pendB P G ops (T.setIfInBounds j true) x = true := by simpa using hwp
            exact hall p hp' (pendB_of hm)
          · cases ht
        · rename_i i j hr
          have hi : i ∈ Region.ready .any ops T := by rw [hr]; exact List.mem_cons_self
          have hj : j ∈ Region.ready .any ops T := by rw [hr]; exact List.mem_cons_of_mem _ List.mem_cons_self
          split at ht
          · rename_i t' ht'
            split at ht
            · rename_i u' hu'
              cases hwp : (isWrt (cls P G (opAt ops i)) || isWrt (cls P G (opAt ops j))) <;> rw [hwp] at ht <;> try (cases ht; done)
              cases ht
              simp only [runS] at h
              obtain ⟨ox, oy, h1, h2, hx, hy⟩ := eqO_some (E := E) (P := P) (F := F) h
              obtain ⟨w1, w2⟩ := (Bool.or_eq_false_iff).1 hwp
              refine ⟨fun h0 => absurd h0 (by rw [hr]; simp), fun k hk => ?_⟩
              rw [hr] at hk
              rcases List.mem_cons.1 hk with rfl | hk
              · exact one_ok hcf hg hd hcl hi (ihn _ _ _ ht' (closed_set hcl hi)) (fun hw => by rw [w1] at hw; cases hw) h1 s hC hQp (fun e a w hp => hQ e a w (hx e a w hp))
              · have hkj : k = j := by simpa using hk
                subst hkj
                exact one_ok hcf hg hd hcl hj (ihn _ _ _ hu' (closed_set hcl hj)) (fun hw => by rw [w2] at hw; cases hw) h2 s hC hQp (fun e a w hp => hQ e a w (hy e a w hp))
            · cases ht
          · cases ht
        · cases ht
theorem St.drew {loc : Nat → Nat × Nat} {tm : Tr SV} {hp : Tr SBlk} {nx : Nat} {a : Act} {w : World} (s : St E P F loc tm hp nx a w) : St E P F loc tm hp nx a { w with drawn := w.drawn + 1 } :=
  ⟨s.size, s.defs, s.tr, ⟨s.hr.lt, s.hr.rel, s.hr.wf, s.hr.one, s.hr.inj⟩, s.le, s.bel.drew, s.own, s.agree⟩
theorem draw_ok (hm : P.follows .mixedOrders = true) : DrawOk E P G := by
  intro F cf hcf hg id ops hd tm hp nx out h loc a w s Q hQ
  simp only [runR] at h
  cases ht : sch P G ops with
  | none => rw [ht] at h; cases h
  | some t =>
    rw [ht] at h
    simp only at h
    unfold sch at ht
    cases hns : Region.noSelect ops <;> rw [hns] at ht <;> try (cases ht; done)
    simp only [Bool.cond_true] at ht
    have hcl : ClosedP ops (Up (Array.replicate ops.size false)) := fun j o hj => by
      unfold Up at hj
      simp only [Array.getD_eq_getD_getElem?, Array.getElem?_replicate] at hj
      split at hj <;> cases hj
    refine wp_mono (wp_region_any (Q := Post E P F out) hm ?_) hQ
    exact (sch_ok hcf hg hd hns _ _ _ _ ht hcl tm hp nx out h loc a _ s.drew [] (fun c hc => by cases hc) _ (fun c a w => post_noPanic) (fun _ _ _ h => h)).any

/-- THE EVALUATOR IS SOUND -/
theorem eval_ok (hP : OkP P) (hm : P.follows .mixedOrders = true) {sums : Tr Sm} (hS : SumsOk E P G sums) (n : Nat) : CFOk E P G (call P G sums n) := call_ok hP (draw_ok hm) hS n

#print axioms eval_ok

end Sx
end Go.Proofs.YtfdggebddcoeeaaGreatDoor
end
