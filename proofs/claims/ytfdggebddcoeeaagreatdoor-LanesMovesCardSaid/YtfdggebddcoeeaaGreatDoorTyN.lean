/-
  Merged states; one operation; operations in a row.
-/
import Derived.Test.YtfdggebddcoeeaaGreatDoorTyM
set_option linter.unusedVariables false
set_option linter.unusedSimpArgs false
noncomputable section
namespace Go.Proofs.YtfdggebddcoeeaaGreatDoor
namespace Sx
open Go Go.RowKit
variable {E : Env} {P : Program} {G : Gl} {F : Fr}

theorem brel_view {loc : Nat → Nat × Nat} {w : World} {nx b : Nat} {k k0 : SBlk} (h1 : k.ty = k0.ty) (h2 : k.ex = k0.ex) (h3 : k.fr = false → k0.fr = false) (h4 : k.cells.length = k0.cells.length)
    (h5 : denL E loc k.cells = denL E loc k0.cells) (h : BRel E loc P w b k0) : BRel E loc P w b k := by
  obtain ⟨cur, fz, rest, g1, g2, g3, g4, g5⟩ := h
  exact ⟨cur, fz, rest, by rw [h1]; exact g1, fun hf => g2 (h3 hf), by rw [h5]; exact g3, by rw [h2]; exact g4, by rw [h1, h2, h4]; exact g5⟩
theorem St.view {loc : Nat → Nat × Nat} {tm tm2 : Tr SV} {hp hp2 : Tr SBlk} {nx nx' : Nat} {a : Act} {w : World} (s : St E P F loc tm hp nx a w) (hn : nx ≤ nx')
    (ht : ∀ t v, tm2.get t = some v → ∃ u, tm.get t = some u ∧ ∀ loc nx, u.wf E nx → v.den E loc = u.den E loc ∧ v.wf E nx)
    (hh : ∀ b k, hp2.get b = some k → ∃ k0, hp.get b = some k0 ∧ k.ty = k0.ty ∧ k.ex = k0.ex ∧ (k.fr = false → k0.fr = false) ∧ k.cells.length = k0.cells.length ∧ allOne k.cells = true ∧
      ∀ loc nx, wfL E nx k0.cells → denL E loc k.cells = denL E loc k0.cells ∧ wfL E nx k.cells) : ∃ loc', St E P F loc' tm2 hp2 nx' a w := by
  have hl : ∀ b, b < nx → (fun b => if b < nx then loc b else (F.w0.heap.size, 0)) b = loc b := fun b hb => if_pos hb
  have hr' := hrel_congr E P s.hr hl hn
  have ht' := trel_congr E s.tr hl hn
  refine ⟨(fun b => if b < nx then loc b else (F.w0.heap.size, 0)), s.size, s.defs, fun t v hv => ?_, ⟨fun b k h => ?_, fun b k h => ?_, fun b k h => ?_, fun b k h => ?_, fun b k b' k' h h' he => ?_⟩, Nat.le_trans s.le hn, s.bel, fun b h1 h2 => ?_, fun b hb => ?_⟩
  · obtain ⟨u, h1, h2⟩ := ht t v hv
    obtain ⟨h3, h4⟩ := ht' t u h1
    obtain ⟨h5, h6⟩ := h2 (fun b => if b < nx then loc b else (F.w0.heap.size, 0)) nx' h4
    exact ⟨by rw [h5]; exact h3, h6⟩
  · obtain ⟨k0, h1, _⟩ := hh b k h
    exact hr'.lt b k0 h1
  · obtain ⟨k0, h1, h2, h3, h4, h5, h6, h7⟩ := hh b k h
    exact brel_view (nx := nx') h2 h3 h4 h5 (h7 _ nx' (hr'.wf b k0 h1)).1 (hr'.rel b k0 h1)
  · obtain ⟨k0, h1, h2, h3, h4, h5, h6, h7⟩ := hh b k h
    exact (h7 (fun b => if b < nx then loc b else (F.w0.heap.size, 0)) nx' (hr'.wf b k0 h1)).2
  · obtain ⟨k0, h1, h2, h3, h4, h5, h6, h7⟩ := hh b k h
    exact h6
  · obtain ⟨k0, h1, _⟩ := hh b k h
    obtain ⟨k0', h1', _⟩ := hh b' k' h'
    exact hr'.inj b k0 b' k0' h1 h1' he
  · by_cases hb : b < nx
    · simp only [if_pos hb]; exact s.own b h1 hb
    · simp only [if_neg hb]; exact Nat.le_refl _
  · simp only [if_pos (Nat.lt_of_lt_of_le hb s.le)]; exact s.agree b hb
theorem St.left {c : SE} (hc : c.den E ≠ 0) {loc : Nat → Nat × Nat} {tm tm' : Tr SV} {hp hp' : Tr SBlk} {nx nx' : Nat} {a : Act} {w : World} (s : St E P F loc tm hp nx a w) : ∃ loc', St E P F loc' (mgT c tm tm') (mgH c hp hp') (maxN nx nx') a w := by
  refine s.view (maxN_left nx nx') (fun t v h => ?_) (fun b k h => ?_)
  · obtain ⟨x, y, h1, h2, h3⟩ := mgT_get h
    exact ⟨x, h1, fun loc nx hw => (mgW_ok E h3 loc nx).1 hc hw⟩
  · obtain ⟨x, y, h1, h2, h3⟩ := mgH_get h
    obtain ⟨a1, a2, a3, a4, a5, a6⟩ := mgB_ok h3
    obtain ⟨b1, b2, b3⟩ := mgL_one a6
    exact ⟨x, h1, a1, a3, fun hf => (a5 hf).1, b2, b1, fun loc nx hw => (mgL_ok E a6 loc nx).1 hc hw⟩
theorem St.right {c : SE} (hc : c.den E = 0) {loc : Nat → Nat × Nat} {tm tm' : Tr SV} {hp hp' : Tr SBlk} {nx nx' : Nat} {a : Act} {w : World} (s : St E P F loc tm' hp' nx' a w) : ∃ loc', St E P F loc' (mgT c tm tm') (mgH c hp hp') (maxN nx nx') a w := by
  refine s.view (maxN_right nx nx') (fun t v h => ?_) (fun b k h => ?_)
  · obtain ⟨x, y, h1, h2, h3⟩ := mgT_get h
    exact ⟨y, h2, fun loc nx hw => (mgW_ok E h3 loc nx).2 hc hw⟩
  · obtain ⟨x, y, h1, h2, h3⟩ := mgH_get h
    obtain ⟨a1, a2, a3, a4, a5, a6⟩ := mgB_ok h3
    obtain ⟨b1, b2, b3⟩ := mgL_one a6
    exact ⟨y, h2, a2, a4, fun hf => (a5 hf).2, b3, b1, fun loc nx hw => (mgL_ok E a6 loc nx).2 hc hw⟩
theorem mgO_left {c : SE} (hc : c.den E ≠ 0) {x y : Out} {e : Exit} {a : Act} {w : World} (h : Post E P F x e a w) : Post E P F (mgO c x y) e a w := by
  have dflt : Post E P F (.split c x y) e a w := ⟨fun _ => h, fun h0 => absurd h0 hc⟩
  cases x with
  | split => exact dflt
  | done ex tm hp nx =>
    cases ex <;> try exact dflt
    cases y with
    | split => exact dflt
    | done ex' tm' hp' nx' =>
      cases ex' <;> try exact dflt
      obtain ⟨h1, loc, h2⟩ := h
      obtain ⟨loc', h3⟩ := h2.left hc
      exact ⟨h1, loc', h3⟩
theorem mgO_right {c : SE} (hc : c.den E = 0) {x y : Out} {e : Exit} {a : Act} {w : World} (h : Post E P F y e a w) : Post E P F (mgO c x y) e a w := by
  have dflt : Post E P F (.split c x y) e a w := ⟨fun h0 => absurd hc h0, fun _ => h⟩
  cases x with
  | split => exact dflt
  | done ex tm hp nx =>
    cases ex <;> try exact dflt
    cases y with
    | split => exact dflt
    | done ex' tm' hp' nx' =>
      cases ex' <;> try exact dflt
      obtain ⟨h1, loc, h2⟩ := h
      obtain ⟨loc', h3⟩ := h2.right hc
      exact ⟨h1, loc', h3⟩
theorem mgOO_some {c : SE} {x y : Option Out} {o : Out} (h : mgOO c x y = some o) : ∃ a b, x = some a ∧ y = some b ∧ o = mgO c a b := by
  cases x <;> cases y <;> simp only [mgOO] at h <;> cases h
  exact ⟨_, _, rfl, rfl, rfl⟩

/-! calls, as an operation sees them -/
def CX (P : Program) (f : FuncId) (args : Array Value) (w : World) (R : Value → World → Prop) : Prop := match (callFunc f args).run P w with
  | .ok (.value v) w' => R v w'
  | .ok (.enter g as) w' => Calls P g as w' (fun e w'' => match e with | .returned v => R v w'' | _ => False)
  | _ => False
variable (E P G F)
def CFOk (cf : CF) : Prop := ∀ f args hp nx v hp' nx', cf f args hp nx = some (v, hp', nx') → ∀ loc w, HRel E loc P nx hp w → GOk E G w → wfL E nx args →
  CX P f (denL E loc args).toArray w (fun u w' => ∃ loc', u = v.den E loc' ∧ Step E loc P w.heap.size nx nx nx' hp' w v loc' w')
/-- what a part of the evaluator is to do -/
def ROk (k : K) (X : (Exit → Act → World → Prop) → Act → World → Prop) : Prop := ∀ tm hp nx out, k tm hp nx = some out → ∀ loc a w, St E P F loc tm hp nx a w → ∀ Q, (∀ e a w, Post E P F out e a w → Q e a w) → X Q a w
/-- the same, from worlds that meet R -/
def RFrom (k : K) (R : World → Prop) (X : (Exit → Act → World → Prop) → Act → World → Prop) : Prop := ∀ tm hp nx out, k tm hp nx = some out → ∀ loc a w, St E P F loc tm hp nx a w → R w → ∀ Q, (∀ e a w, Post E P F out e a w → Q e a w) → X Q a w
variable {E P G F}
theorem ROk.from {k : K} {X : (Exit → Act → World → Prop) → Act → World → Prop} (h : ROk E P F k X) (R : World → Prop) : RFrom E P F k R X := fun _ _ _ _ hk _ _ _ s _ Q hQ => h _ _ _ _ hk _ _ _ s Q hQ
theorem St.gok {loc : Nat → Nat × Nat} {tm : Tr SV} {hp : Tr SBlk} {nx : Nat} {a : Act} {w : World} (s : St E P F loc tm hp nx a w) (hg : GOk E G F.w0) : GOk E G w := gok_below E G hg s.bel
theorem step_lift {loc loc' : Nat → Nat × Nat} {tm : Tr SV} {hp hp' : Tr SBlk} {nx nx' : Nat} {a : Act} {w w' : World} (s : St E P F loc tm hp nx a w) {v : SV} (h : Step E loc P w.heap.size nx nx nx' hp' w v loc' w') : Step E loc P F.w0.heap.size F.lo nx nx' hp' w v loc' w' :=
  ⟨h.le, h.agree, h.hr, h.bel.mono s.bel.size, fun b h1 h2 => (by
    by_cases hb : b < nx
    · rw [h.agree b hb]; exact s.own b h1 hb
    · exact Nat.le_trans s.bel.size (h.own b (by omega) h2)), h.wf⟩

theorem cal_inv {o : Op} {f : Tr SV → Option (FuncId × List SV)} (hc : cls P G o = .cal f) {tm : Tr SV} {fid : FuncId} {args : List SV} (hv : f tm = some (fid, args)) :
    ∃ x as ts, o = .call ⟨.value x, as, ts⟩ ∧ ∃ caps vs, opv tm x = some (.func fid caps) ∧ opsv tm as.toList = some vs ∧ args = vs ++ caps := by
  cases o <;> simp only [cls] at hc <;> (try (cases hc; done))
  case makeFunc fn first caps =>
    cases fn <;> simp only at hc <;> try (cases hc; done)
    split at hc <;> cases hc
  case convert src dst x =>
    split at hc
    · rename_i e he
      cases k1 : strT P src <;> rw [k1] at hc <;> (try (cases hc; done)) <;> cases k2 : Nat.beq (descKind P e) 5 <;> rw [k2] at hc <;> (try (cases hc; done)) <;> cases k3 : Nat.beq (szOf P e) 1 <;> rw [k3] at hc <;> (cases hc; done)
    · cases hc
  case makeSlice t l c =>
    split at hc
    · rename_i e he
      cases k1 : szPos P e <;> rw [k1] at hc <;> cases hc
    · cases hc
  case buildSlice t n ps =>
    split at hc
    · rename_i e he
      cases h5 : (and (szPos P e) (Nat.ble (Nat.mul n (szOf P e)) many)) <;> rw [h5] at hc <;> cases hc
    · cases hc
  case slice t x lo hi m =>
    cases m with
    | some m => cases hc
    | none =>
      simp only at hc
      cases he : elemOf' P t <;> rw [he] at hc
      · cases hs : strT P t <;> rw [hs] at hc <;> cases hc
      · cases hc
  case fieldAddr t x i =>
    split at hc
    · rename_i fl hf
      cases hz : Nat.beq (szOf P fl.type) 0 <;> rw [hz] at hc <;> cases hc
    · cases hc
  case field t x i =>
    split at hc <;> cases hc
  case call c =>
    obtain ⟨callee, as, ts⟩ := c
    cases callee <;> simp only at hc <;> try (cases hc; done)
    · rename_i x
      cases hc
      dsimp only at hv
      split at hv
      · rename_i v hx
        split at hv
        · rename_i g caps
          split at hv
          · rename_i vs hvs
            cases hv
            exact ⟨x, as, ts, rfl, caps, vs, hx, hvs, rfl⟩
          · cases hv
        · cases hv
      · cases hv
    · rename_i b
      cases b <;> simp only [builtinC] at hc <;> cases hc
/-- one operation that is carried out -/
theorem runC_ok {cf : CF} (hcf : CFOk E P G cf) (hg : GOk E G F.w0) {o : Oper} (hd : ∀ t, o.dst = some t → t < F.n) {ih : K} {X : (Exit → Act → World → Prop) → Act → World → Prop} {w : World} (hX : RFrom E P F ih (fun w' => isWrt (cls P G o.op) = false → Below w.heap.size w w') X)
    {tm : Tr SV} {hp : Tr SBlk} {nx : Nat} {out : Out} (h : runC cf F.lo (cls P G o.op) o.dst ih tm hp nx = some out) {loc : Nat → Nat × Nat} {a : Act} (s : St E P F loc tm hp nx a w)
    {Q : Exit → Act → World → Prop} (hQ : ∀ e a w, Post E P F out e a w → Q e a w) : o.wp P a w (X Q) Q := by
  cases hc : cls P G o.op with
  | bad => rw [hc] at h; cases h
  | sil f =>
    rw [hc] at h
    simp only [runC] at h
    cases hv : f tm hp with
    | none => rw [hv] at h; cases h
    | some v =>
      rw [hv] at h
      simp only [silK] at h
      have hrun : (execOp a.eval o).run P w = .ok (.value (v.den E loc)) w ∧ v.wf E nx := by
        cases hl : isLoad o.op
        · exact silN_ok E loc P G hg.1 hc hl s.tr hv s.hr w
        · exact silL_ok E loc P G hc hl s.tr hv s.hr (s.gok hg)
      unfold Oper.wp
      rw [hrun.1]
      exact hX _ _ _ _ h loc _ _ (s.sil hd hrun.2) (fun _ => Below.refl _ _) Q hQ
  | alc f =>
    rw [hc] at h
    simp only [runC] at h
    cases hv : f tm with
    | none => rw [hv] at h; cases h
    | some r =>
      obtain ⟨k, val⟩ := r
      rw [hv] at h
      simp only [alcK] at h
      obtain ⟨w', g, c, h1, h2, h3, h4, h5, h6, h7⟩ := alc_ok E loc P G hc s.tr hv w
      have hst : Step E loc P w.heap.size nx nx (nx + 1) (hp.set nx k) w (val nx) (upd loc nx (g, c)) w' :=
        ⟨Nat.le_succ nx, fun b hb => upd_lt loc _ hb, hrel_new E loc P s.hr h2 h3 h4 h5 h6, h2, fun b hb1 hb2 => (by
          have : b = nx := by omega
          subst this; rw [upd_self]; exact h3), h7⟩
      unfold Oper.wp
      rw [h1]
      exact hX _ _ _ _ h _ _ _ (s.step hd (step_lift s hst)) (fun _ => h2) Q hQ
  | wrt f =>
    rw [hc] at h
    simp only [runC] at h
    cases hv : f F.lo tm hp nx with
    | none => rw [hv] at h; cases h
    | some r =>
      obtain ⟨v, hp', nx'⟩ := r
      rw [hv] at h
      simp only [effK] at h
      obtain ⟨w', loc', h1, h2⟩ := wrt_ok E loc P G s.tr s.hr s.own s.bel.size hc hv
      unfold Oper.wp
      rcases h2 with h2 | ⟨h2, h3⟩
      · rw [h2]
        exact hX _ _ _ _ h _ _ _ (s.step hd h1) (fun hne => by rw [hc] at hne; cases hne) Q hQ
      · rw [h2]
        show X Q (a.put o.dst undef) w'
        rw [← h3]
        exact hX _ _ _ _ h _ _ _ (s.step hd h1) (fun hne => by rw [hc] at hne; cases hne) Q hQ
  | cal f =>
    rw [hc] at h
    simp only [runC] at h
    cases hv : f tm with
    | none => rw [hv] at h; cases h
    | some r =>
      obtain ⟨fid, args⟩ := r
      rw [hv] at h
      simp only [calK] at h
      cases hcall : cf fid args hp nx with
      | none => rw [hcall] at h; cases h
      | some r =>
        obtain ⟨v, hp', nx'⟩ := r
        rw [hcall] at h
        simp only [effK] at h
        -- the call
        have hop : ∃ x as ts, o.op = .call ⟨.value x, as, ts⟩ ∧ ∃ caps vs, opv tm x = some (.func fid caps) ∧ opsv tm as.toList = some vs ∧ args = vs ++ caps := by
          exact cal_inv hc hv
        obtain ⟨x, as, ts, hop, caps, vs, hx, has, rfl⟩ := hop
        obtain ⟨a1, a2⟩ := opv_ok E loc s.tr hx
        obtain ⟨b1, b2⟩ := opsv_ok E loc s.tr has
        have b1' : as.map a.eval = (denL E loc vs).toArray := Array.ext' (by rw [Array.toList_map, b1])
        have hcx := hcf _ _ _ _ _ _ _ hcall loc w s.hr (s.gok hg) (wfL_append E b2 a2)
        have hexec : (execOp a.eval o).run P w = (callFunc fid (denL E loc (vs ++ caps)).toArray).run P w := by
          unfold execOp
          rw [hop]
          have e1 : (denL E loc vs).toArray ++ (denL E loc caps).toArray = (denL E loc (vs ++ caps)).toArray := by
            apply Array.ext'; simp [denL_append]
          simp only [resolve, a1, SV.den, Deferred.ofValue, b1', Sem.run_bind, Sem.run_pure, Result.andThen_ok, invoke, Array.empty_append, e1]
        unfold Oper.wp
        rw [hexec]
        unfold CX at hcx
        generalize (callFunc fid (denL E loc (vs ++ caps)).toArray).run P w = r at hcx
        cases r with
        | halt x w' => exact hcx.elim
        | ok n w' =>
          cases n <;> (try exact hcx.elim)
          case value u =>
            obtain ⟨loc', e1, e2⟩ := hcx
            subst e1
            exact hX _ _ _ _ h _ _ _ (s.step hd (step_lift s e2)) (fun _ => e2.bel) Q hQ
          case enter g as' =>
            refine Calls.mono hcx fun e w'' he => ?_
            cases e with
            | returned u =>
              obtain ⟨loc', e1, e2⟩ := he
              subst e1
              exact hX _ _ _ _ h _ _ _ (s.step hd (step_lift s e2)) (fun _ => e2.bel) Q hQ
            | panicked c => exact he.elim
            | outgrown => exact he.elim

theorem yielded_ok {ops : Array Oper} {j g : Nat} (hj : guardDst ops j = some g) {ts : Array Value} {b : Bool} (h : ts[g]? = some (.bool b)) : yielded ops ts j = some b := by
  unfold guardDst at hj
  unfold yielded
  cases ho : ops[j]? with
  | none => rw [ho] at hj; cases hj
  | some o =>
    rw [ho] at hj
    simp only at hj
    simp [hj, h]
theorem yielded_none {ops : Array Oper} {j g : Nat} (hj : guardDst ops j = some g) {ts : Array Value} (h : ts[g]? = some (.tuple #[])) : yielded ops ts j = none := by
  unfold guardDst at hj
  unfold yielded
  cases ho : ops[j]? with
  | none => rw [ho] at hj; cases hj
  | some o =>
    rw [ho] at hj
    simp only at hj
    simp [hj, h]
/-- one operation -/
theorem runO_ok {cf : CF} (hcf : CFOk E P G cf) (hg : GOk E G F.w0) {ops : Array Oper} {o : Oper} (hd : ∀ t, o.dst = some t → t < F.n) {ih : K} {X : (Exit → Act → World → Prop) → Act → World → Prop} {w : World} (hX : RFrom E P F ih (fun w' => isWrt (cls P G o.op) = false → Below w.heap.size w w') X)
    {tm : Tr SV} {hp : Tr SBlk} {nx : Nat} {out : Out} (h : runO P G cf F.lo ops o ih tm hp nx = some out) {loc : Nat → Nat × Nat} {a : Act} (s : St E P F loc tm hp nx a w)
    {Q : Exit → Act → World → Prop} (hQ : ∀ e a w, Post E P F out e a w → Q e a w) :
    if Region.wanted o (yielded ops a.tmps) then o.wp P a w (X Q) Q else X Q (a.put o.dst undef) w := by
  have hskip : ∀ {loc tm hp nx a out}, ih (putO o.dst (.tup []) tm) hp nx = some out → St E P F loc tm hp nx a w → ∀ {Q : Exit → Act → World → Prop}, (∀ e a w, Post E P F out e a w → Q e a w) → X Q (a.put o.dst undef) w := by
    intro loc tm hp nx a out h s Q hQ
    have : (SV.tup []).den E loc = undef := rfl
    rw [← this]
    exact hX _ _ _ _ h _ _ _ (s.sil hd (v := .tup []) trivial) (fun _ => Below.refl _ _) Q hQ
  unfold runO at h
  cases hgu : o.guard with
  | none =>
    rw [hgu] at h
    have hw : Region.wanted o (yielded ops a.tmps) = true := by simp [Region.wanted, hgu]
    rw [if_pos hw]
    exact runC_ok hcf hg hd hX h s hQ
  | some gw =>
    obtain ⟨j, want⟩ := gw
    rw [hgu] at h
    simp only [runG] at h
    cases hdst : guardDst ops j with
    | none => rw [hdst] at h; cases h
    | some g =>
      rw [hdst] at h
      simp only at h
      cases hv : tm.get g with
      | none => rw [hv] at h; cases h
      | some v =>
        rw [hv] at h
        have htup : ∀ l, v = .tup l → if Region.wanted o (yielded ops a.tmps) = true then o.wp P a w (X Q) Q else X Q (a.put o.dst undef) w := fun l hl => by
          subst hl
          simp only at h
          cases l with
          | cons _ _ => cases h
          | nil =>
            have hy := yielded_none hdst (s.tr g _ hv).1
            have hw : Region.wanted o (yielded ops a.tmps) = false := by simp [Region.wanted, hgu, hy]
            rw [hw, if_neg (by simp)]
            exact hskip h s hQ
        cases v <;> (try exact htup _ rfl) <;> simp only at h <;> try (cases h; done)
        rename_i e
        obtain ⟨t1, t2⟩ := s.tr g _ hv
        have hy := yielded_ok hdst t1
        have hw : Region.wanted o (yielded ops a.tmps) = (decide (e.den E ≠ 0) == want) := by
          simp only [Region.wanted, hgu, hy]
          cases decide (e.den E ≠ 0) <;> cases want <;> rfl
        rw [hw]
        have gen : (cond want
            (mgOO e (runC cf F.lo (cls P G o.op) o.dst ih (tm.set g (.bool (.lit 1))) hp nx) (ih (putO o.dst (.tup []) (tm.set g (.bool (.lit 0)))) hp nx))
            (mgOO e (ih (putO o.dst (.tup []) (tm.set g (.bool (.lit 1)))) hp nx) (runC cf F.lo (cls P G o.op) o.dst ih (tm.set g (.bool (.lit 0))) hp nx))) = some out →
            if (decide (e.den E ≠ 0) == want) = true then o.wp P a w (X Q) Q else X Q (a.put o.dst undef) w := by
          intro h
          have s1 : e.den E ≠ 0 → St E P F loc (tm.set g (.bool (.lit 1))) hp nx a w := fun hc => s.same hv (by simp [SV.den, SE.den, hc]) trivial
          have s0 : e.den E = 0 → St E P F loc (tm.set g (.bool (.lit 0))) hp nx a w := fun hc => s.same hv (by simp [SV.den, SE.den, hc]) trivial
          cases want
          · simp only [Bool.cond_false] at h
            obtain ⟨o1, o2, h1, h2, rfl⟩ := mgOO_some h
            by_cases hc : e.den E = 0
            · have : (decide (e.den E ≠ 0) == false) = true := by simp [hc]
              rw [if_pos this]
              exact runC_ok hcf hg hd hX h2 (s0 hc) fun e a w hp => hQ e a w (mgO_right hc hp)
            · have : ¬ (decide (e.den E ≠ 0) == false) = true := by simp [hc]
              rw [if_neg this]
              exact hskip h1 (s1 hc) fun e a w hp => hQ e a w (mgO_left hc hp)
          · simp only [Bool.cond_true] at h
            obtain ⟨o1, o2, h1, h2, rfl⟩ := mgOO_some h
            by_cases hc : e.den E = 0
            · have : ¬ (decide (e.den E ≠ 0) == true) = true := by simp [hc]
              rw [if_neg this]
              exact hskip h2 (s0 hc) fun e a w hp => hQ e a w (mgO_right hc hp)
            · have : (decide (e.den E ≠ 0) == true) = true := by simp [hc]
              rw [if_pos this]
              exact runC_ok hcf hg hd hX h1 (s1 hc) fun e a w hp => hQ e a w (mgO_left hc hp)
        cases e <;> try exact gen h
        rename_i n
        simp only at h
        cases h0 : int0 n
        · have hn : n ≠ 0 := fun e => by rw [(int0_iff n).2 e] at h0; cases h0
          rw [h0] at h
          cases want
          · have : ¬ (decide ((SE.lit n).den E ≠ 0) == false) = true := by simp [SE.den, hn]
            rw [if_neg this]
            exact hskip h s hQ
          · have : (decide ((SE.lit n).den E ≠ 0) == true) = true := by simp [SE.den, hn]
            rw [if_pos this]
            exact runC_ok hcf hg hd hX h s hQ
        · have hn : n = 0 := (int0_iff n).1 h0
          rw [h0] at h
          cases want
          · have : (decide ((SE.lit n).den E ≠ 0) == false) = true := by simp [SE.den, hn]
            rw [if_pos this]
            exact runC_ok hcf hg hd hX h s hQ
          · have : ¬ (decide ((SE.lit n).den E ≠ 0) == true) = true := by simp [SE.den, hn]
            rw [if_neg this]
            exact hskip h s hQ
theorem runL_ok {cf : CF} (hcf : CFOk E P G cf) (hg : GOk E G F.w0) {ops : Array Oper} : ∀ {l : List Oper}, (∀ o ∈ l, ∀ t, o.dst = some t → t < F.n) → ROk E P F (runL P G cf F.lo ops l) (fun Q a w => wpList P ops Q l a w) := by
  intro l
  induction l with
  | nil =>
    intro _ tm hp nx out h loc a w s Q hQ
    cases h
    exact hQ _ _ _ ⟨rfl, loc, s⟩
  | cons o l ih =>
    intro hd tm hp nx out h loc a w s Q hQ
    have := runO_ok hcf hg (hd o List.mem_cons_self) ((ih fun o ho => hd o (List.mem_cons_of_mem _ ho)).from _) h s hQ
    unfold wpList
    split
    · rename_i hw
      rw [if_pos hw] at this
      exact .inl this
    · rename_i hw
      rw [if_neg hw] at this
      exact this

end Sx
end Go.Proofs.YtfdggebddcoeeaaGreatDoor
end
