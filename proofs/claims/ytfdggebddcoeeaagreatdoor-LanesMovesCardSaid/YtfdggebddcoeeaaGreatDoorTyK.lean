/-
  Append; and all operations that write in one statement.
-/
import Derived.Test.YtfdggebddcoeeaaGreatDoorTyJ
set_option linter.unusedVariables false
set_option linter.unusedSimpArgs false
noncomputable section
namespace Go.Proofs.YtfdggebddcoeeaaGreatDoor
namespace Sx
open Go Go.RowKit
variable (E : Env) (loc : Nat → Nat × Nat) (P : Program) (G : Gl)

/-- a new row that append left -/
theorem step_row {lo B nx : Nat} {hp hp1 : Tr SBlk} {w w' : World} (hr : HRel E loc P nx hp w) (ho : Own loc lo B nx) {g c len m : Nat} {e : TypeId} {cs : List SV} {cur : Array Value} {rest : List Value}
    (hsub : ∀ b k', hp1.get b = some k' → hp.get b = some k' ∧ w'.heap[(loc b).1]? = w.heap[(loc b).1]? ∧ (loc b).1 ≠ g)
    (hbel : Below B w w') (hg : w'.heap[g]? = some (.cells cur e (0, 0))) (hB : B ≤ g) (hcur : cur.toList = denL E loc cs ++ rest) (hsz : cur.size = c * szOf P e) (hc : c ≤ maxLen)
    (hlen : cs.length = (len + m) * szOf P e) (hw : wfL E nx cs) (h1 : allOne cs = true) :
    Step E loc P B lo nx (nx + 1) (hp1.set nx ⟨e, cs, false, false⟩) w (.sl nx 0 (len + m) (.gr 0)) (upd loc nx (g, c)) w' := by
  refine ⟨Nat.le_succ nx, fun b hb => upd_lt loc _ hb, ?_, hbel, ?_, Nat.lt_succ_self nx⟩
  · refine hrel_put E loc P hr (loc' := upd loc nx (g, c)) (fun b hb => upd_lt loc _ hb) (Nat.le_succ nx) (fun b k' h => ?_) (Nat.lt_succ_self nx) ?_ (wfL_mono E (Nat.le_succ nx) _ hw) h1
    · rcases Tr.get_set h with ⟨e, h2⟩ | ⟨e, h2⟩
      · exact .inl ⟨e, h2⟩
      · obtain ⟨a1, a2, a3⟩ := hsub b k' h2
        exact .inr ⟨e, a1, a2, by rw [upd_self]; exact a3⟩
    · refine ⟨cur, (0, 0), rest, by rw [upd_self]; exact hg, fun _ => rfl, ?_, fun h => (by cases h), fun _ => ⟨by rw [upd_self]; exact hsz, by rw [upd_self]; exact hc, ⟨len + m, hlen⟩⟩⟩
      rw [denL_congr E loc (fun b hb => upd_lt loc _ hb) _ hw]; exact hcur
  · intro b hlo hb
    by_cases e : b = nx
    · subst e; rw [upd_self]; exact hB
    · rw [upd_lt loc _ (by omega)]
      exact ho b hlo (by omega)
theorem den_new (g c len : Nat) (nx : Nat) : (SV.sl nx 0 len (.gr 0)).den E (upd loc nx (g, c)) = .slice (some ⟨g, 0, none⟩) len c := by
  simp [SV.den, Cap.den, upd_self]
theorem zc_size (z : Value) (n : Nat) : (Builtin.zeroCells z.cells n).size = n * z.cells.size := by simp [Builtin.zeroCells]

theorem appV_ok {lo B nx nx' : Nat} {hp hp' : Tr SBlk} {w : World} (hr : HRel E loc P nx hp w) (ho : Own loc lo B nx) (hB : B ≤ w.heap.size) {t e : TypeId} (ty : TypeId) (he : P.underlying t = some (.slice e)) (hs : szPos P e = true) {x y v : SV}
    (h : appV lo hp nx e (szOf P e) x y = some (v, hp', nx')) :
    ∃ w' loc', Step E loc P B lo nx nx' hp' w v loc' w' ∧ (Builtin.append_ #[t, t] ty #[x.den E loc, y.den E loc]).run P w = .ok (v.den E loc') w' := by
  unfold appV at h
  cases hc : slCells hp (szOf P e) y with
  | none => rw [hc] at h; cases h
  | some mn =>
    obtain ⟨m, new⟩ := mn
    rw [hc] at h
    simp only at h
    obtain ⟨c1, c2, c3, c4⟩ := slCells_ok E loc P hr hc
    obtain ⟨i, z, i1, i2, i3, i4, i5, i6⟩ := szPos_ok P hs
    have hbytes : ∀ n, n ≤ many → n * i.bytes ≤ 67108864 := fun n hn => by
      have : n * i.bytes ≤ 1048576 * 64 := Nat.mul_le_mul hn i6
      omega
    cases x <;> simp only at h <;> try (cases h; done)
    case nils =>
      cases m with
      | zero =>
        simp only at h
        cases h
        refine ⟨w, loc, ⟨Nat.le_refl _, fun _ _ => rfl, hr, Below.refl _ w, ho, trivial⟩, ?_⟩
        rcases c4 with ⟨d1, d2, d3⟩ | ⟨ad, cc, d1, d2⟩
        · rw [d1]
          simp [SV.den, Builtin.append_, run_underlying he, sizeOf, typeInfo, i1, Builtin.lenOf, Builtin.firstCells]
        · rw [d1]
          simp [SV.den, Builtin.append_, run_underlying he, sizeOf, typeInfo, i1, Builtin.lenOf, Builtin.firstCells, loadCells, loadCellsFrom]
      | succ m =>
        simp only at h
        cases hm : Nat.ble (m + 1) many <;> rw [hm] at h <;> try (cases h; done)
        cases h
        have hmm : m + 1 ≤ many := Nat.le_of_ble_eq_true hm
        have hmm' : m + 1 ≤ 1048576 := hmm
        rcases c4 with ⟨d1, d2, d3⟩ | ⟨ad, cc, d1, d2⟩
        · cases d2
        · have hby := hbytes _ hmm
          have hrun := run_append_nil (P := P) w t ty e i z he i1 i2 ad (m + 1) cc (denL E loc new) (by rw [denL_length, c1, i4]) d2 (by omega) (by omega) (by omega)
          refine ⟨_, upd loc nx (w.heap.size, grownCap w (m + 1) 0 e), ?_, by rw [d1, den_new]; exact hrun⟩
          · have := step_row E loc P (g := w.heap.size) (c := grownCap w (m + 1) 0 e) (len := 0) (m := m + 1) (hp1 := hp) (e := e) (cs := new) (cur := (denL E loc new).toArray ++ Builtin.zeroCells z.cells (grownCap w (m + 1) 0 e - (m + 1)))
              (rest := (Builtin.zeroCells z.cells (grownCap w (m + 1) 0 e - (m + 1))).toList)
              (w' := w.drew.alloc (.cells ((denL E loc new).toArray ++ Builtin.zeroCells z.cells (grownCap w (m + 1) 0 e - (m + 1))) e)) hr ho (fun b k' h => ⟨h, ?_, ?_⟩) ?_ ?_ hB ?_ ?_ ?_ ?_ c2 c3
            · rw [Nat.zero_add] at this; exact this
            · exact heap_alloc_old w.drew _ _ (hrel_lt E loc P hr h)
            · have := hrel_lt E loc P hr h; omega
            · exact ((Below.refl _ w).drew).alloc hB _
            · exact heap_alloc_new w.drew _
            · simp
            · have hge := grownCap_ge w (m + 1) 0 e
              rw [Array.size_append, List.size_toArray, denL_length, zc_size, i3, c1, i4, ← Nat.add_mul]
              congr 1; omega
            · exact grownCap_le_maxLen w (m + 1) 0 e (by simp [maxLen]; omega)
            · rw [c1, Nat.zero_add]
    case sl b off len c =>
      cases h1 : Nat.ble lo b <;> rw [h1] at h <;> try (cases h; done)
      cases h2 : Nat.beq off 0 <;> rw [h2] at h <;> try (cases h; done)
      cases h3 : Nat.ble (Nat.add len m) many <;> rw [h3] at h <;> try (cases h; done)
      simp only [Bool.cond_true] at h
      cases hk : hp.get b with
      | none => rw [hk] at h; cases h
      | some k =>
        obtain ⟨ty', cells, ex, fr⟩ := k
        rw [hk] at h
        simp only at h
        cases fr <;> try (cases h; done)
        simp only [Bool.cond_false] at h
        cases h4 : Nat.beq ty' e <;> rw [h4] at h <;> try (cases h; done)
        have e4 := Nat.eq_of_beq_eq_true h4
        subst e4
        have e2 := Nat.eq_of_beq_eq_true h2
        subst e2
        have e3 : len + m ≤ 1048576 := Nat.le_of_ble_eq_true h3
        have hlo := Nat.le_of_ble_eq_true h1
        obtain ⟨cur, fz, rest, g1, g2, g3, g4, g5⟩ := hr.rel b _ hk
        have hfz := g2 rfl
        subst hfz
        simp only at g1 g3 g4 g5
        have hown := ho b hlo (hr.lt b _ hk)
        -- what both kinds of capacity give
        have key : ∃ olds, v = .sl nx 0 (len + m) (.gr 0) ∧ hp' = (hp.del b).set nx ⟨ty', olds ++ new, false, false⟩ ∧ nx' = nx + 1 ∧ olds.length = len * szOf P ty' ∧ (∃ r', cur.toList = denL E loc olds ++ r') ∧
            len ≤ c.den loc b ∧ c.den loc b ≤ maxLen ∧ cur.size = c.den loc b * szOf P ty' ∧ wfL E nx olds ∧ allOne olds = true := by
          cases c with
          | gr d =>
            simp only [Bool.cond_true] at h
            cases h5 : Nat.beq d 0 <;> rw [h5] at h <;> try (cases h; done)
            cases ex <;> try (cases h; done)
            simp only [Bool.cond_true, Bool.cond_false] at h
            cases h6 : Nat.beq cells.length (Nat.mul len (szOf P ty')) <;> rw [h6] at h <;> try (cases h; done)
            cases h
            have e5 := Nat.eq_of_beq_eq_true h5
            subst e5
            have e6 : cells.length = len * szOf P ty' := Nat.eq_of_beq_eq_true h6
            obtain ⟨k1, k2, k3⟩ := g5 rfl
            refine ⟨cells, rfl, rfl, rfl, e6, ⟨rest, g3⟩, ?_, k2, k1, hr.wf b _ hk, hr.one b _ hk⟩
            have := congrArg List.length g3
            simp only [Array.length_toList, List.length_append, denL_length] at this
            have h7 : len * szOf P ty' ≤ (loc b).2 * szOf P ty' := by rw [← k1, ← e6]; omega
            exact Nat.le_of_mul_le_mul_right h7 (by omega)
          | ex c =>
            simp only [Bool.cond_true] at h
            cases ex <;> try (cases h; done)
            simp only [Bool.cond_true] at h
            cases h6 : Nat.beq cells.length (Nat.mul c (szOf P ty')) <;> rw [h6] at h <;> try (cases h; done)
            cases h7 : Nat.ble len c <;> rw [h7] at h <;> try (cases h; done)
            cases h8 : Nat.ble c many <;> rw [h8] at h <;> try (cases h; done)
            cases h
            have e6 : cells.length = c * szOf P ty' := Nat.eq_of_beq_eq_true h6
            have e7 : len ≤ c := Nat.le_of_ble_eq_true h7
            have e8 : c ≤ 1048576 := Nat.le_of_ble_eq_true h8
            have hr0 := g4 rfl
            subst hr0
            have hle : len * szOf P ty' ≤ cells.length := by rw [e6]; exact Nat.mul_le_mul_right _ e7
            refine ⟨cells.take (len * szOf P ty'), rfl, rfl, rfl, by simp; omega, ⟨denL E loc (cells.drop (len * szOf P ty')), ?_⟩, e7, by simp [Cap.den, maxLen]; omega, ?_, wfL_take E (hr.wf b _ hk) _, ?_⟩
            · rw [g3, ← denL_append, List.take_append_drop, List.append_nil]
            · have := congrArg List.length g3
              simp only [Array.length_toList, List.length_append, denL_length, List.length_nil, Nat.add_zero] at this
              rw [this, e6]; rfl
            · exact (allOne_iff _).2 fun v hv => (allOne_iff _).1 (hr.one b _ hk) v (List.mem_of_mem_take hv)
        obtain ⟨olds, rfl, rfl, rfl, o1, ⟨r', o2⟩, o3, o4, o5, o6, o7⟩ := key
        generalize hcap : c.den loc b = cap at *
        have hdel : ∀ b' k', (hp.del b).get b' = some k' → hp.get b' = some k' ∧ (loc b').1 ≠ (loc b).1 ∧ (loc b').1 < w.heap.size := fun b' k' h => by
          obtain ⟨a1, a2⟩ := Tr.get_del h
          exact ⟨a2, fun he => a1 (hr.inj _ _ _ _ a2 hk he), hrel_lt E loc P hr a2⟩
        have hx : (SV.sl b 0 len c).den E loc = .slice (some ⟨(loc b).1, 0, none⟩) len cap := by simp [SV.den, hcap]
        have hln : (olds ++ new).length = (len + m) * szOf P ty' := by rw [List.length_append, o1, c1, Nat.add_mul]
        have hwf := wfL_append E o6 c2
        have hone := allOne_append.2 ⟨o7, c3⟩
        rcases c4 with ⟨d1, d2, d3⟩ | ⟨ad, cc, d1, d2⟩
        · subst d2
          have hnew : new = [] := List.eq_nil_of_length_eq_zero (by rw [c1]; simp)
          subst hnew
          refine ⟨w, upd loc nx ((loc b).1, cap), step_row E loc P hr ho (fun b' k' h => ⟨(hdel b' k' h).1, rfl, (hdel b' k' h).2.1⟩) (Below.refl _ w) g1 hown (rest := r') (by rw [List.append_nil]; exact o2) o5 o4 hln hwf hone, ?_⟩
          rw [den_new, hx, d1]
          simp [Builtin.append_, run_underlying he, sizeOf, typeInfo, i1, Builtin.lenOf, Builtin.firstCells, o3, storeCells]
        · by_cases hroom : len + m ≤ cap
          · have hfit : len * i.size + (denL E loc new).length ≤ cur.size := by rw [denL_length, c1, o5, i4, ← Nat.add_mul]; exact Nat.mul_le_mul_right _ hroom
            have hrun := run_append_room (P := P) w t ty ty' i he i1 (loc b).1 len cap cur g1 ad m cc (denL E loc new) (by rw [denL_length, c1, i4]) d2 (allOne_den E loc c3) hroom hfit
            have htake : cur.toList.take (len * i.size) = denL E loc olds := by
              rw [o2, ← i4, ← o1, ← denL_length E loc olds]
              exact List.take_left
            refine ⟨w.setRow (loc b).1 (cur.toList.take (len * i.size) ++ denL E loc new ++ cur.toList.drop (len * i.size + (denL E loc new).length)).toArray, upd loc nx ((loc b).1, cap), ?_, by rw [den_new, hx, d1]; exact hrun⟩
            refine step_row E loc P hr ho (fun b' k' h => ⟨(hdel b' k' h).1, setRow_other w _ _ _ (hdel b' k' h).2.1, (hdel b' k' h).2.1⟩) ?_ (setRow_heap w _ cur _ ty' _ g1) hown (rest := cur.toList.drop (len * i.size + (denL E loc new).length)) ?_ ?_ o4 hln hwf hone
            · exact ⟨rfl, rfl, rfl, by simp, fun k hk' => setRow_other w _ _ _ (by omega)⟩
            · rw [htake, denL_append]
            · simp only [List.size_toArray, List.length_append, List.length_take, List.length_drop, Array.length_toList]
              rw [← o5]
              omega
          · have holds : ∀ j u, (denL E loc olds)[j]? = some u → w.cell? ((⟨(loc b).1, 0, none⟩ : Addr).add j) = some u := fun j u hu => by
              rw [add_plain', cell_of_row w _ _ cur ty' (0, 0) g1]
              have : cur.toList[0 + j]? = some u := by
                rw [o2, Nat.zero_add, List.getElem?_append_left (List.getElem?_eq_some_iff.1 hu).1]; exact hu
              simpa using this
            have hby := hbytes _ (show len + m ≤ many from e3)
            have hrun := run_append_grow (P := P) w t ty ty' i z he i1 i2 ⟨(loc b).1, 0, none⟩ len cap (denL E loc olds) (by rw [denL_length, o1, i4]) holds ad m cc (denL E loc new) (by rw [denL_length, c1, i4]) d2 (by omega) (by omega) (growslice_fits (by omega) (by omega))
            refine ⟨w.drew.alloc (.cells ((denL E loc olds).toArray ++ (denL E loc new).toArray ++ Builtin.zeroCells z.cells (grownCap w (len + m) cap ty' - (len + m))) ty'), upd loc nx (w.heap.size, grownCap w (len + m) cap ty'), ?_, by rw [den_new, hx, d1]; exact hrun⟩
            refine step_row E loc P hr ho (fun b' k' h => ⟨(hdel b' k' h).1, heap_alloc_old w.drew _ _ (hdel b' k' h).2.2, by have := (hdel b' k' h).2.2; omega⟩) (((Below.refl _ w).drew).alloc hB _) (heap_alloc_new w.drew _) hB
              (rest := (Builtin.zeroCells z.cells (grownCap w (len + m) cap ty' - (len + m))).toList) ?_ ?_ (grownCap_le_maxLen w _ _ _ (by simp [maxLen]; omega)) hln hwf hone
            · simp [denL_append]
            · have hge := grownCap_ge w (len + m) cap ty'
              simp only [Array.size_append, List.size_toArray, denL_length, zc_size, i3, c1, o1, i4, ← Nat.add_mul]
              congr 1; omega

end Sx
end Go.Proofs.YtfdggebddcoeeaaGreatDoor
end
