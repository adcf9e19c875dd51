/-
  Operations that make a block, or write.
-/
import Derived.Test.YtfdggebddcoeeaaGreatDoorTyH
import Derived.Laws.IdiomStrings
import Derived.Laws.NewFold
set_option linter.unusedVariables false
set_option linter.unusedSimpArgs false
noncomputable section
namespace Go.Proofs.YtfdggebddcoeeaaGreatDoor
namespace Sx
open Go Go.RowKit
variable (E : Env) (loc : Nat → Nat × Nat) (P : Program) (G : Gl)

def upd (nx : Nat) (x : Nat × Nat) : Nat → Nat × Nat := fun b => if b = nx then x else loc b
theorem upd_self (nx : Nat) (x : Nat × Nat) : upd loc nx x nx = x := by simp [upd]
theorem upd_lt {nx b : Nat} (x : Nat × Nat) (h : b < nx) : upd loc nx x b = loc b := by simp [upd]; omega

theorem brel_congr {loc' : Nat → Nat × Nat} {w w' : World} {nx b : Nat} {k : SBlk} (hl : ∀ b, b < nx → loc' b = loc b) (hb : b < nx) (hw : wfL E nx k.cells) (hh : w'.heap[(loc b).1]? = w.heap[(loc b).1]?)
    (h : BRel E loc P w b k) : BRel E loc' P w' b k := by
  obtain ⟨cur, fz, rest, h1, h2, h3, h4, h5⟩ := h
  refine ⟨cur, fz, rest, ?_, h2, ?_, h4, ?_⟩
  · rw [hl b hb, hh]; exact h1
  · rw [denL_congr E loc hl k.cells hw]; exact h3
  · rw [hl b hb]; exact h5
/-- the blocks that stay, and one new or changed block -/
theorem hrel_put {nx nx' : Nat} {hp hp1 : Tr SBlk} {w w' : World} (hr : HRel E loc P nx hp w) {loc' : Nat → Nat × Nat} (hl : ∀ b, b < nx → loc' b = loc b) (hn : nx ≤ nx') {c : Nat} {k : SBlk}
    (hsub : ∀ b k', (hp1.set c k).get b = some k' → (b = c ∧ k = k') ∨ (b ≠ c ∧ hp.get b = some k' ∧ w'.heap[(loc b).1]? = w.heap[(loc b).1]? ∧ (loc b).1 ≠ (loc' c).1))
    (hc : c < nx') (hb : BRel E loc' P w' c k) (hw : wfL E nx' k.cells) (h1 : allOne k.cells = true) : HRel E loc' P nx' (hp1.set c k) w' := by
  refine ⟨fun b k' h => ?_, fun b k' h => ?_, fun b k' h => ?_, fun b k' h => ?_, fun b k' b' k'' h h' he => ?_⟩
  · rcases hsub b k' h with ⟨rfl, _⟩ | ⟨_, h2, _⟩
    · exact hc
    · exact Nat.lt_of_lt_of_le (hr.lt b k' h2) hn
  · rcases hsub b k' h with ⟨rfl, rfl⟩ | ⟨_, h2, h3, _⟩
    · exact hb
    · exact brel_congr E loc P hl (hr.lt b k' h2) (hr.wf b k' h2) h3 (hr.rel b k' h2)
  · rcases hsub b k' h with ⟨rfl, rfl⟩ | ⟨_, h2, _⟩
    · exact hw
    · exact wfL_mono E hn _ (hr.wf b k' h2)
  · rcases hsub b k' h with ⟨rfl, rfl⟩ | ⟨_, h2, _⟩
    · exact h1
    · exact hr.one b k' h2
  · rcases hsub b k' h with ⟨rfl, _⟩ | ⟨_, h2, _, h4⟩ <;> rcases hsub b' k'' h' with ⟨e1, _⟩ | ⟨_, h2', _, h4'⟩
    · exact e1.symm
    · exact absurd (by rw [he, hl b' (hr.lt b' k'' h2')]) h4'
    · subst e1; exact absurd (by rw [← he, hl b (hr.lt b k' h2)]) h4
    · rw [hl b (hr.lt b k' h2), hl b' (hr.lt b' k'' h2')] at he
      exact hr.inj b k' b' k'' h2 h2' he
theorem hrel_lt {nx : Nat} {hp : Tr SBlk} {w : World} (hr : HRel E loc P nx hp w) {b : Nat} {k : SBlk} (h : hp.get b = some k) : (loc b).1 < w.heap.size := by
  obtain ⟨cur, fz, rest, h1, _⟩ := hr.rel b k h
  exact (Array.getElem?_eq_some_iff.1 h1).1
theorem hrel_new {nx : Nat} {hp : Tr SBlk} {w w' : World} (hr : HRel E loc P nx hp w) (hbel : Below w.heap.size w w') {g c : Nat} (hg : w.heap.size ≤ g) {k : SBlk}
    (hb : BRel E (upd loc nx (g, c)) P w' nx k) (hw : wfL E (nx + 1) k.cells) (h1 : allOne k.cells = true) : HRel E (upd loc nx (g, c)) P (nx + 1) (hp.set nx k) w' := by
  refine hrel_put E loc P hr (fun b hb => upd_lt loc _ hb) (Nat.le_succ nx) (fun b k' h => ?_) (Nat.lt_succ_self nx) hb hw h1
  rcases Tr.get_set h with ⟨e, h2⟩ | ⟨e, h2⟩
  · exact .inl ⟨e, h2⟩
  · have := hrel_lt E loc P hr h2
    exact .inr ⟨e, h2, hbel.block _ this, by rw [upd_self]; simp only; omega⟩

theorem repl_length (z : List SV) (n : Nat) : (repl z n).length = n * z.length := by
  induction n with
  | zero => simp [repl]
  | succ n ih => simp [repl, ih, Nat.add_mul]; omega
theorem repl_mem {z : List SV} {n : Nat} {v : SV} (h : v ∈ repl z n) : v ∈ z := by
  induction n with
  | zero => simp [repl] at h
  | succ n ih =>
    rcases List.mem_append.1 h with h | h
    · exact h
    · exact ih h
theorem repl_wf {nx : Nat} {z : List SV} (h : wfL E nx z) (n : Nat) : wfL E nx (repl z n) := (wfL_iff E nx _).2 fun v hv => (wfL_iff E nx z).1 h v (repl_mem hv)
theorem repl_one {z : List SV} (h : allOne z = true) (n : Nat) : allOne (repl z n) = true := (allOne_iff _).2 fun v hv => (allOne_iff z).1 h v (repl_mem hv)
theorem repl_get (z : List SV) (hz : z ≠ []) (n k : Nat) (h : k < n * z.length) : (repl z n)[k]? = z[k % z.length]? := by
  induction n generalizing k with
  | zero => simp at h
  | succ n ih =>
    have hp : 0 < z.length := List.length_pos_iff.2 hz
    simp only [repl]
    by_cases hk : k < z.length
    · rw [List.getElem?_append_left hk, Nat.mod_eq_of_lt hk]
    · rw [List.getElem?_append_right (by omega), ih (k - z.length) (by rw [Nat.add_mul, Nat.one_mul] at h; omega)]
      congr 1
      rw [← Nat.mod_eq_sub_mod (by omega)]
theorem rowS_ok {nx n len : Nat} {z : SV} {vs : List (Nat × SV)} {cs : List SV} (h : rowS n len z vs = some cs) (hv : wfP E nx vs) (hz : wfL E nx (cellsOf z)) (hl : n = (cellsOf z).length) :
    Instr.fill (fun i => some (i * n, n)) (denL E loc (repl (cellsOf z) len)).toArray (denP E loc vs) = some (denL E loc cs).toArray ∧ wfL E nx cs := by
  have gen : ∀ {c}, fillS (fun i => some (Nat.mul i n, n)) (repl (cellsOf z) len) vs = some c → Instr.fill (fun i => some (i * n, n)) (denL E loc (repl (cellsOf z) len)).toArray (denP E loc vs) = some (denL E loc c).toArray ∧ wfL E nx c :=
    fun hc => fillS_ok E loc (pl' := fun i => some (i * n, n)) (fun i x hx => hx) hc (repl_wf E hz len) hv
  unfold rowS at h
  split at h
  · rename_i c hc
    cases b1 : Nat.beq c.length (Nat.mul len n) <;> rw [b1] at h
    · exact gen h
    · have e1 : c.length = len * n := Nat.eq_of_beq_eq_true b1
      cases h
      exact seqP_ok E loc hc hv _ (by simp [denL_length, repl_length, e1, hl])
  · exact gen h
/-- a block laid whole -/
theorem brel_alloc {w : World} {nx : Nat} {t : TypeId} {cs : List SV} (c : Nat) (hw : wfL E nx cs) :
    BRel E (upd loc nx (w.heap.size, c)) P (w.alloc (.cells (denL E loc cs).toArray t)) nx ⟨t, cs, true, false⟩ := by
  refine ⟨(denL E loc cs).toArray, (0, 0), [], ?_, fun _ => rfl, ?_, fun _ => rfl, fun h => by cases h⟩
  · rw [upd_self]; exact heap_alloc_new w _
  · rw [denL_congr E loc (fun b hb => upd_lt loc _ hb) cs hw]; simp
theorem below_alloc (w : World) (o : Obj) : Below w.heap.size w (w.alloc o) := (Below.refl _ w).alloc (Nat.le_refl _) o

theorem szPos_ok {e : TypeId} (h : szPos P e = true) : ∃ i z, P.info? e = some i ∧ i.zero = some z ∧ z.cells.size = i.size ∧ szOf P e = i.size ∧ 0 < i.size ∧ i.bytes ≤ 64 := by
  unfold szPos at h
  cases hi : P.info? e with
  | none => rw [hi] at h; cases h
  | some i =>
    rw [hi] at h
    simp only at h
    cases h0 : Nat.beq i.size 0 <;> rw [h0] at h <;> try (cases h; done)
    cases h1 : Nat.ble i.bytes 64 <;> rw [h1] at h <;> try (cases h; done)
    cases hz : i.zero with
    | none => rw [hz] at h; cases h
    | some z =>
      rw [hz] at h
      exact ⟨i, z, rfl, hz, Nat.eq_of_beq_eq_true h, by simp [szOf, hi], Nat.pos_of_ne_zero (beq0_false h0), Nat.le_of_ble_eq_true h1⟩
theorem made_eq {z : SV} {n m : Nat} (hm : (cellsOf z).length = m) (hp : 0 < m) : (Array.range (n * m)).map ((z.den E loc).cells[· % (z.den E loc).cells.size]!) = (denL E loc (repl (cellsOf z) n)).toArray := by
  subst hm
  have hz : cellsOf z ≠ [] := List.length_pos_iff.1 hp
  apply Array.ext_getElem?
  intro k
  rw [cellsOf_den]
  simp only [List.size_toArray, denL_length, List.getElem?_toArray]
  by_cases hk : k < n * (cellsOf z).length
  · have hlt : k % (cellsOf z).length < (cellsOf z).length := Nat.mod_lt _ hp
    rw [denL_eq E loc (repl _ _), List.getElem?_map, repl_get _ hz n k hk]
    simp [hk, denL_eq, hlt]
  · rw [denL_eq E loc (repl _ _), List.getElem?_map, List.getElem?_eq_none (by rw [repl_length]; omega), Array.getElem?_eq_none (by simp; omega)]
    rfl

theorem desc5 {e : TypeId} (h : descKind P e = 5) : P.underlying e = some (.int .u8) := by
  unfold descKind at h
  split at h
  · rename_i k hu
    rw [hu]
    cases k <;> first | rfl | (simp at h)
  · simp at h
  · simp at h
theorem byteWf (c : UInt8) (nx : Nat) : (SV.int .u8 (.lit (.ofNat c.toNat))).wf E nx := by
  have := c.toNat_lt
  simp [SV.wf, SE.den, inR, IntKind.min, IntKind.max, IntKind.signed, IntKind.bits]
  omega
/-- what an operation that makes a block does -/
theorem alc_ok {o : Oper} {f : Tr SV → Option AR} (hc : cls P G o.op = .alc f) {nx : Nat} {tm : Tr SV} {a : Act} {k : SBlk} {val : Nat → SV} (ht : TRel E loc nx tm a.tmps)
    (h : f tm = some ⟨k, val⟩) (w : World) : ∃ w' g c, (execOp a.eval o).run P w = .ok (.value ((val nx).den E (upd loc nx (g, c)))) w' ∧ Below w.heap.size w w' ∧ w.heap.size ≤ g ∧
      BRel E (upd loc nx (g, c)) P w' nx k ∧ wfL E (nx + 1) k.cells ∧ allOne k.cells = true ∧ (val nx).wf E (nx + 1) := by
  unfold execOp
  cases hop : o.op <;> rw [hop] at hc <;> simp only [cls] at hc <;> (try (cases hc; done))
  case box t x =>
    cases hc
    dsimp only at h
    split at h
    · rename_i v hv
      cases h1 : allOne (cellsOf v) <;> rw [h1] at h <;> try (cases h; done)
      cases h
      obtain ⟨a1, a2⟩ := opv_ok E loc ht hv
      have hw := cellsOf_wf E a2
      refine ⟨_, w.heap.size, 0, ?_, below_alloc w _, Nat.le_refl _, brel_alloc E loc P 0 hw, wfL_mono E (Nat.le_succ nx) _ hw, h1, Nat.lt_succ_self nx⟩
      simp only [a1, Instr.box, newVar, newRow, cellsOf_den, Sem.run_bind, run_newObj_alloc, Result.andThen_ok, Sem.run_pure, SV.den, upd_self]
    · cases h
  case alloc t =>
    cases hc
    dsimp only at h
    split at h
    · rename_i v hv
      cases h1 : allOne (cellsOf v) <;> rw [h1] at h <;> try (cases h; done)
      cases h
      obtain ⟨i, a1, a2, a3⟩ := zeroOf_ok E loc P hv nx
      have hw := cellsOf_wf E a3
      refine ⟨_, w.heap.size, 0, ?_, below_alloc w _, Nat.le_refl _, brel_alloc E loc P 0 hw, wfL_mono E (Nat.le_succ nx) _ hw, h1, Nat.lt_succ_self nx⟩
      have hz : (zeroValue t).run P w = .ok (v.den E loc) w := by simp [zeroValue, typeInfo, a1, a2]
      simp only [Instr.alloc, hz, newVar, newRow, cellsOf_den, Sem.run_bind, run_newObj_alloc, Result.andThen_ok, Sem.run_pure, SV.den, upd_self]
    · cases h
  case convert src dst x =>
    split at hc
    · rename_i e he
      cases k1 : strT P src <;> rw [k1] at hc <;> try (cases hc; done)
      cases k2 : Nat.beq (descKind P e) 5 <;> rw [k2] at hc <;> try (cases hc; done)
      cases k3 : Nat.beq (szOf P e) 1 <;> rw [k3] at hc <;> try (cases hc; done)
      cases hc
      dsimp only at h
      split at h
      · rename_i v hv
        split at h
        · rename_i s
          cases h1 : Nat.ble s.length many <;> rw [h1] at h <;> try (cases h; done)
          cases h
          obtain ⟨a1, a2⟩ := opv_ok E loc ht hv
          have hsz : (ByteArray.mk s.toArray).size = s.length := by simp [ByteArray.size]
          have hrun := run_bytes_of_string (P := P) w src dst e ⟨s.toArray⟩ (strT_ok P k1) (elemOf'_ok P he) (desc5 P (Nat.eq_of_beq_eq_true k2))
          have hle : s.length ≤ 1048576 := Nat.le_of_ble_eq_true h1
          have hcap := grownCap_le_maxLen w s.length 0 e (by simp [maxLen]; omega)
          have hge := grownCap_ge w s.length 0 e
          have hwf : wfL E nx (s.map fun c => SV.int .u8 (.lit (.ofNat c.toNat))) := (wfL_iff E nx _).2 fun v hv => by
            obtain ⟨c, _, rfl⟩ := List.mem_map.1 hv
            exact byteWf E c nx
          refine ⟨(w.drew.alloc (.cells (bytesRow ⟨s.toArray⟩ (grownCap w s.length 0 e)) e ((bytesRow ⟨s.toArray⟩ (grownCap w s.length 0 e)).size, (bytesRow ⟨s.toArray⟩ (grownCap w s.length 0 e)).size + 1))), w.heap.size, grownCap w s.length 0 e, ?_, ?_, Nat.le_refl _, ?_, wfL_mono E (Nat.le_succ nx) _ hwf, ?_, Nat.lt_succ_self nx⟩
          · simp only [a1, SV.den]
            rw [Sem.run_bind, hrun]
            simp only [Result.andThen_ok, Sem.run_pure, Cap.den, upd_self, hsz, Nat.sub_zero]
          · exact ((Below.refl _ w).drew).alloc (by simp) _
          · refine ⟨bytesRow ⟨s.toArray⟩ (grownCap w s.length 0 e), ((bytesRow ⟨s.toArray⟩ (grownCap w s.length 0 e)).size, (bytesRow ⟨s.toArray⟩ (grownCap w s.length 0 e)).size + 1), List.replicate (grownCap w s.length 0 e - s.length) (.int .u8 0), ?_, fun h => (by cases h), ?_, fun h => (by cases h), fun _ => ⟨?_, ?_, ?_⟩⟩
            · rw [upd_self]; exact heap_alloc_new w.drew _
            · rw [denL_congr E loc (fun b hb => upd_lt loc _ hb) _ hwf]
              simp [bytesRow, hsz, denL_eq, SV.den, SE.den]
            · rw [upd_self]
              simp only [bytesRow, hsz, Nat.eq_of_beq_eq_true k3, Array.size_append, Array.size_map, Array.size_replicate, Nat.mul_one]
              simp
              omega
            · rw [upd_self]; exact hcap
            · exact ⟨s.length, by simp [Nat.eq_of_beq_eq_true k3]⟩
          · exact (allOne_iff _).2 fun v hv => by
              obtain ⟨c, _, rfl⟩ := List.mem_map.1 hv
              rfl
        · cases h
      · cases h
    · cases hc
  case makeSlice t l c =>
    split at hc
    · rename_i e he
      cases k1 : szPos P e <;> rw [k1] at hc <;> try (cases hc; done)
      cases hc
      dsimp only at h
      split at h
      · rename_i l' hl
        split at h
        · rename_i c' hc'
          cases b1 : Nat.ble l' c' <;> rw [b1] at h <;> try (cases h; done)
          cases b2 : Nat.ble c' many <;> rw [b2] at h <;> try (cases h; done)
          simp only [cond] at h
          split at h
          · rename_i z hz
            cases b3 : allOne (cellsOf z) <;> rw [b3] at h <;> try (cases h; done)
            cases h
            have e1 := Nat.le_of_ble_eq_true b1
            have e2 : c' ≤ 1048576 := Nat.le_of_ble_eq_true b2
            obtain ⟨kl, l1, _⟩ := opN_ok E loc ht hl
            obtain ⟨kc, c1, _⟩ := opN_ok E loc ht hc'
            obtain ⟨i, z', i1, i2, i3, i4, i5, i6⟩ := szPos_ok P k1
            obtain ⟨i', j1, j2, j3⟩ := zeroOf_ok E loc P hz nx
            rw [i1] at j1
            cases j1
            rw [i2] at j2
            cases j2
            have hb : (i.bytes : Int) * (c' : Int) ≤ 281474976710656 := by
              have : i.bytes * c' ≤ 64 * 1048576 := Nat.mul_le_mul i6 e2
              have h' : ((i.bytes * c' : Nat) : Int) ≤ 281474976710656 := by omega
              rwa [Int.natCast_mul] at h'
            have hrun := run_make (P := P) w t e i _ (elemOf'_ok P he) i1 i2 kl kc l' c' (by omega) (by omega) hb (by omega)
            have hlen : (cellsOf z).length = i.size := by
              rw [cellsOf_den] at i3; simpa [denL_length] using i3
            have hm := made_eq E loc (z := z) (n := c') hlen i5
            have hw := repl_wf E (cellsOf_wf E j3) c'
            simp only [Int.toNat_natCast, madeCells, hm] at hrun
            refine ⟨_, w.heap.size, 0, ?_, below_alloc w _, Nat.le_refl _, brel_alloc E loc P 0 hw, wfL_mono E (Nat.le_succ nx) _ hw, repl_one b3 c', Nat.lt_succ_self nx⟩
            simp only [l1, c1, Sem.run_bind, hrun, Result.andThen_ok, Sem.run_pure, SV.den, Cap.den, upd_self]
          · cases h
        · cases h
      · cases h
    · cases hc
  case buildSlice t n ps =>
    split at hc
    · rename_i e he
      cases h5 : (and (szPos P e) (Nat.ble (Nat.mul n (szOf P e)) many)) <;> rw [h5] at hc <;> try (cases hc; done)
      cases hc
      dsimp only at h
      split at h
      · rename_i vs hvs
        split at h
        · rename_i z hz
          split at h
          · rename_i cs hcs
            cases b3 : allOne cs <;> rw [b3] at h <;> try (cases h; done)
            cases h
            obtain ⟨b1, b2⟩ := (Bool.and_eq_true _ _).mp h5
            have e2 : n * szOf P e ≤ 1048576 := Nat.le_of_ble_eq_true b2
            obtain ⟨a1, a2⟩ := parts_ok E loc ht hvs
            obtain ⟨i, z', i1, i2, i3, i4, i5, i6⟩ := szPos_ok P b1
            obtain ⟨i', j1, j2, j3⟩ := zeroOf_ok E loc P hz nx
            rw [i1] at j1
            cases j1
            rw [i2] at j2
            cases j2
            have hlen : (cellsOf z).length = i.size := by
              rw [cellsOf_den] at i3; simpa [denL_length] using i3
            obtain ⟨f1, f2⟩ := rowS_ok E loc hcs a2 (cellsOf_wf E j3) (by rw [i4, hlen])
            rw [i4] at f1
            have hm := made_eq E loc (z := z) (n := n) hlen i5
            have hps : (ps.map fun x => match x with | (i, x) => (i, a.eval x)) = (denP E loc vs).toArray := by
              apply Array.ext'
              rw [Array.toList_map]
              exact a1
            refine ⟨_, w.heap.size, 0, ?_, below_alloc w _, Nat.le_refl _, brel_alloc E loc P 0 f2, wfL_mono E (Nat.le_succ nx) _ f2, b3, Nat.lt_succ_self nx⟩
            have hsz : (sizeOf e).run P w = .ok i.size w := by rw [szOf_run' P i1, i4]
            have hzv : (zeroValue e).run P w = .ok (z.den E loc) w := by simp [zeroValue, typeInfo, i1, i2]
            have n1 : ¬ (n * i.size > 2 ^ 24) := by rw [← i4]; omega
            simp only [hps, Instr.buildSlice, Sem.run_bind, run_underlying (elemOf'_ok P he), hsz, Result.andThen_ok, if_neg n1]
            by_cases hz0 : n * i.size = 0
            · have hm' : ∀ g : Nat → Value, (Array.range (n * i.size)).map g = (denL E loc (repl (cellsOf z) n)).toArray := fun g => by
                rw [← hm, hz0]; simp
              simp only [if_pos hz0, Sem.run_pure, Result.andThen_ok, hm', f1, newRow, Sem.run_bind, run_newObj_alloc]
              simp only [SV.den, Cap.den, upd_self]
            · simp only [if_neg hz0, Sem.run_bind, hzv, Sem.run_pure, Result.andThen_ok, hm, f1, newRow, run_newObj_alloc]
              simp only [SV.den, Cap.den, upd_self]
          · cases h
        · cases h
      · cases h
    · cases hc
  case makeFunc fn first caps =>
    cases fn <;> simp only at hc <;> try (cases hc; done)
    split at hc <;> cases hc
  case slice t x lo hi m =>
    cases m with
    | some m => cases hc
    | none =>
      simp only at hc
      cases he : elemOf' P t <;> rw [he] at hc
      · cases hs : strT P t <;> rw [hs] at hc <;> cases hc
      · cases hc
  case fieldAddr t x i =>
    split at hc
    · rename_i fl hf
      cases hz : Nat.beq (szOf P fl.type) 0 <;> rw [hz] at hc <;> cases hc
    · cases hc
  case field t x i =>
    split at hc <;> cases hc
  case call c =>
    obtain ⟨callee, args, ts⟩ := c
    cases callee <;> simp only at hc <;> try (cases hc; done)
    rename_i b
    cases b <;> simp only [builtinC] at hc <;> cases hc

end Sx
end Go.Proofs.YtfdggebddcoeeaaGreatDoor
end
