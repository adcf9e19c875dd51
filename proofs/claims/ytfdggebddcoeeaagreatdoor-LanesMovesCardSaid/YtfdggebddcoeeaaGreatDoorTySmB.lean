/-
  lanes.shaped: the call.
-/
import Derived.Test.YtfdggebddcoeeaaGreatDoorTySmA
import Derived.Test.YtfdggebddcoeeaaGreatDoorTyR
import Derived.Laws.NewFold
set_option linter.unusedVariables false
set_option linter.unusedSimpArgs false
set_option maxRecDepth 100000
set_option maxHeartbeats 400000
noncomputable section
namespace Go.Proofs.YtfdggebddcoeeaaGreatDoor
namespace Sx
open Go Go.RowKit

section
variable {P : Program} {ops : Array Oper} {Q : Exit → Act → World → Prop} {a : Act} {w w' : World} {rest : List Oper} {o : Oper}
theorem wpl_val {v : Value} (hg : o.guard = none) (h : (execOp a.eval o).run P w = .ok (.value v) w') (k : wpList P ops Q rest (a.put o.dst v) w') : wpList P ops Q (o :: rest) a w := by
  unfold wpList
  have hw : Region.wanted o (yielded ops a.tmps) = true := by simp [Region.wanted, hg]
  rw [if_pos hw]
  refine .inl ?_
  unfold Oper.wp
  rw [h]
  exact k
theorem wpl_skip (hg : o.guard = none) (h : (execOp a.eval o).run P w = .ok .skip w') (k : wpList P ops Q rest (a.put o.dst undef) w') : wpList P ops Q (o :: rest) a w := by
  unfold wpList
  have hw : Region.wanted o (yielded ops a.tmps) = true := by simp [Region.wanted, hg]
  rw [if_pos hw]
  refine .inl ?_
  unfold Oper.wp
  rw [h]
  exact k
theorem wpl_move {x : Operand} {v : Value} (hg : o.guard = none) (ho : o.op = .move x ∨ o.op = .assign x) (hx : a.eval x = v) (k : wpList P ops Q rest (a.put o.dst v) w) : wpList P ops Q (o :: rest) a w := by
  refine wpl_val hg ?_ k
  unfold execOp
  rcases ho with ho | ho <;> rw [ho] <;> simp [hx]
theorem wpl_build {t : TypeId} {ps : Array (Nat × Operand)} {cs : Array Value} (hg : o.guard = none) (ho : o.op = .build t ps) (hc : P.built t (ps.map fun x => (x.1, a.eval x.2)).toList = some cs) (k : wpList P ops Q rest (a.put o.dst (.agg cs)) w) : wpList P ops Q (o :: rest) a w := by
  refine wpl_val hg ?_ k
  unfold execOp
  rw [ho]
  have := run_build (P := P) w t (ps.map fun x => (x.1, a.eval x.2)) cs hc
  simp only [Sem.run_bind]
  rw [show (ps.map fun x => match x with | (i, x) => (i, a.eval x)) = (ps.map fun x => (x.1, a.eval x.2)) from rfl, this]
  rfl
/-- the map's block holds so many entries -/
def mw (w : World) (g : Nat) (es : Array MapEntry) (c : Nat) : World := { w with heap := w.heap.setIfInBounds g (.map es c) }
theorem mw_heap {g : Nat} (h : g < w.heap.size) (es : Array MapEntry) (c : Nat) : (mw w g es c).heap[g]? = some (.map es c) := by simp [mw, h]
theorem mw_mw (g : Nat) (es es' : Array MapEntry) (c c' : Nat) : ({ mw w g es c with heap := (mw w g es c).heap.setIfInBounds g (.map es' c') } : World) = mw w g es' c' := by
  simp [mw, Array.setIfInBounds_setIfInBounds]
theorem wpl_insert {t kt et : TypeId} {m kk x : Operand} {g c : Nat} {es es' : Array MapEntry} {s : ByteArray} {val : Value} (hm : P.underlying t = some (.map kt et)) (hk : P.underlying kt = some .string)
    (hg : o.guard = none) (ho : o.op = .insert t m kk x) (h1 : a.eval m = .map (some g)) (h2 : a.eval kk = .string s) (h3 : a.eval x = val) (hlt : g < w.heap.size)
    (hf : Instr.findNow .string (.string s) es.toList 0 = some none) (he : es.push { key := .string s, val := val, born := c } = es') (k : wpList P ops Q rest (a.put o.dst undef) (mw w g es' (c + 1))) :
    wpList P ops Q (o :: rest) a (mw w g es c) := by
  subst he
  refine wpl_skip hg ?_ k
  unfold execOp
  rw [ho]
  have := run_insert (P := P) (w := mw w g es c) (mty := t) (val := val) hm hk (mw_heap hlt es c) hf
  simp only [Sem.run_bind, h1, h2, h3, this, Result.andThen_ok, Sem.run_pure, mw_mw]
theorem wpl_look {t kt et : TypeId} {m kk : Operand} {g c : Nat} {es : Array MapEntry} {s : ByteArray} {z v : Value} {a' : Option (Nat × Value)} (hm : P.underlying t = some (.map kt et)) (hk : P.underlying kt = some .string)
    (hg : o.guard = none) (ho : o.op = .lookup t m kk false) (h1 : a.eval m = .map (some g)) (h2 : a.eval kk = .string s) (hlt : g < w.heap.size) (hz : ∀ w', (zeroValue et).run P w' = .ok z w')
    (hf : Instr.findNow .string (.string s) es.toList 0 = some a') (he : (a'.map (·.2)).getD z = v) (k : wpList P ops Q rest (a.put o.dst v) (mw w g es c)) :
    wpList P ops Q (o :: rest) a (mw w g es c) := by
  subst he
  refine wpl_val hg ?_ k
  unfold execOp
  rw [ho]
  have := run_look (P := P) (w := mw w g es c) (mty := t) hm hk (mw_heap hlt es c) (hz _) hf
  simp only [Sem.run_bind, h1, h2, this, Result.andThen_ok, Sem.run_pure]
theorem wpl_store {t ty : TypeId} {x y : Operand} {g : Nat} {c1 c2 : Value} {cur : Array Value} (hg : o.guard = none) (ho : o.op = .store t x y) (h1 : a.eval x = .pointer (some ⟨g, 0, none⟩)) (h2 : a.eval y = .agg #[c1, c2])
    (hs : ∀ w', (sizeOf t).run P w' = .ok 2 w') (o1 : c1.oneCell' = true) (o2 : c2.oneCell' = true) (hb : w.heap[g]? = some (.cells cur ty (0, 0))) (hc : cur.size = 2)
    (k : wpList P ops Q rest (a.put o.dst undef) (w.setRow g #[c1, c2])) : wpList P ops Q (o :: rest) a w := by
  refine wpl_skip hg ?_ k
  unfold execOp
  rw [ho]
  have hst := run_storeCells_from (P := P) g ty [c1, c2] 0 cur w hb (by simp [hc]) (fun v hv => by simp at hv; rcases hv with rfl | rfl <;> assumption)
  have h3 : ¬ (Value.agg #[c1, c2]).cells.size ≠ 2 := by simp [Value.cells]
  have h4 : (Value.agg #[c1, c2]).cells.toList = [c1, c2] := rfl
  simp only [List.take_zero, List.nil_append] at hst
  simp only [Sem.run_bind, h1, h2, Instr.storeAt, Instr.sureAddr, storeVar, hs, if_neg h3, h4, hst, Sem.run_pure, Result.andThen_ok]
end
def es6 : Array MapEntry := #[entry ([105,56,120,49,54],8,0) 0, entry ([105,49,54,120,56],16,0) 1, entry ([105,51,50,120,52],32,0) 2, entry ([105,54,52,120,50],64,0) 3, entry ([102,51,50,120,52],32,1) 4, entry ([102,54,52,120,50],64,1) 5]
theorem shaped_calls (s : List UInt8) (w : World) : Calls Tryz.prog 35 #[.string ⟨s.toArray⟩] w (fun e w' => e = .returned (.agg #[.int .i64 ((shapeOf s shapes).1 : Int), .bool (decide ((shapeOf s shapes).2 ≠ 0))]) ∧ Below w.heap.size w w') := by
  have hm : Tryz.prog.underlying 70 = some (.map 9 54) := by kernel_rfl
  have hk : Tryz.prog.underlying 9 = some .string := by kernel_rfl
  have hz : ∀ w' : World, (zeroValue 54).run Tryz.prog w' = .ok (.agg #[.int .i64 0, .bool false]) w' := fun w' => by
    have h : (Tryz.prog.info? 54).bind (·.zero) = some (.agg #[.int .i64 0, .bool false]) := by kernel_rfl
    cases hi : Tryz.prog.info? 54 with
    | none => rw [hi] at h; cases h
    | some i =>
      rw [hi] at h
      have h' : i.zero = some (.agg #[.int .i64 0, .bool false]) := h
      simp [zeroValue, typeInfo, hi, h']
  have hs : ∀ w' : World, (sizeOf 54).run Tryz.prog w' = .ok 2 w' := fun w' => by
    have h : (Tryz.prog.info? 54).map (·.size) = some 2 := by kernel_rfl
    cases hi : Tryz.prog.info? 54 with
    | none => rw [hi] at h; cases h
    | some i =>
      rw [hi] at h
      have h' : i.size = 2 := by simpa using h
      simp [sizeOf, typeInfo, hi, h']
  let w1 : World := w.alloc (.cells #[.int .i64 0, .bool false] 54)
  let w2 : World := w1.alloc (.map #[] 0)
  have hw2 : w.heap.size + 1 < w2.heap.size := by simp [w2, w1]
  have hm0 : w2 = mw w2 (w.heap.size + 1) #[] 0 := by
    have h : w2.heap[w.heap.size + 1]? = some (.map #[] 0) := by
      have := (MapKept.heap_alloc w1 (.map #[] 0)).1
      have hs1 : w1.heap.size = w.heap.size + 1 := by simp [w1]
      rw [hs1] at this
      exact this
    have h' : w2.heap.setIfInBounds (w.heap.size + 1) (.map #[] 0) = w2.heap := by
      apply Array.ext_getElem?
      intro k
      by_cases hk : w.heap.size + 1 = k
      · subst hk
        simp [hw2]
        exact ((Array.getElem?_eq_some_iff.1 h).2).symm
      · rw [Array.getElem?_setIfInBounds_ne hk]
    simp only [mw, h']
  refine calls_of_wp Tryz.func35 rfl ?_
  refine wp_seq (wp_region_lit (wpl_val rfl (v := .pointer (some ⟨w.heap.size, 0, none⟩)) (w' := w1) ?_ (wpList_nil ?_)))
  · show (Instr.alloc 54 true (.tuple #[]) >>= fun v => pure (Next.value v) : Sem Next).run Tryz.prog w = _
    simp only [Instr.alloc, newVar, newRow, Sem.run_bind, hz, Result.andThen_ok, Value.cells, run_newObj_alloc, Sem.run_pure]
    rfl
  refine wp_seq (wp_region_lit (wpl_val rfl (v := .map (some (w.heap.size + 1))) (w' := w2) ?_ ?_))
  · show (Instr.makeMap 70 none >>= fun v => pure (Next.value v) : Sem Next).run Tryz.prog w1 = _
    rw [Sem.run_bind, run_makeMap_plain]
    have hs1 : w1.heap.size = w.heap.size + 1 := by simp [w1]
    simp only [Result.andThen_ok, Sem.run_pure, hs1]
    rfl
  rw [hm0]
  refine wpl_build rfl rfl (cs := #[.int .i64 8, .bool false]) (by kernel_rfl) ?_
  refine wpl_insert (m := .tmp 4) (kk := .const (.string ⟨#[105, 56, 120, 49, 54]⟩)) (x := .tmp 5) (es := #[]) (es' := #[entry ([105,56,120,49,54],8,0) 0]) (c := 0) (s := ⟨#[105, 56, 120, 49, 54]⟩) (val := .agg #[.int .i64 8, .bool false]) hm hk rfl rfl (by kernel_rfl) (by kernel_rfl) (by kernel_rfl) hw2 (by kernel_rfl) (by kernel_rfl) ?_
  refine wpl_build rfl rfl (cs := #[.int .i64 16, .bool false]) (by kernel_rfl) ?_
  refine wpl_insert (m := .tmp 4) (kk := .const (.string ⟨#[105, 49, 54, 120, 56]⟩)) (x := .tmp 6) (es := #[entry ([105,56,120,49,54],8,0) 0]) (es' := #[entry ([105,56,120,49,54],8,0) 0, entry ([105,49,54,120,56],16,0) 1]) (c := 1) (s := ⟨#[105, 49, 54, 120, 56]⟩) (val := .agg #[.int .i64 16, .bool false]) hm hk rfl rfl (by kernel_rfl) (by kernel_rfl) (by kernel_rfl) hw2 (by kernel_rfl) (by kernel_rfl) ?_
  refine wpl_build rfl rfl (cs := #[.int .i64 32, .bool false]) (by kernel_rfl) ?_
  refine wpl_insert (m := .tmp 4) (kk := .const (.string ⟨#[105, 51, 50, 120, 52]⟩)) (x := .tmp 7) (es := #[entry ([105,56,120,49,54],8,0) 0, entry ([105,49,54,120,56],16,0) 1]) (es' := #[entry ([105,56,120,49,54],8,0) 0, entry ([105,49,54,120,56],16,0) 1, entry ([105,51,50,120,52],32,0) 2]) (c := 2) (s := ⟨#[105, 51, 50, 120, 52]⟩) (val := .agg #[.int .i64 32, .bool false]) hm hk rfl rfl (by kernel_rfl) (by kernel_rfl) (by kernel_rfl) hw2 (by kernel_rfl) (by kernel_rfl) ?_
  refine wpl_build rfl rfl (cs := #[.int .i64 64, .bool false]) (by kernel_rfl) ?_
  refine wpl_insert (m := .tmp 4) (kk := .const (.string ⟨#[105, 54, 52, 120, 50]⟩)) (x := .tmp 8) (es := #[entry ([105,56,120,49,54],8,0) 0, entry ([105,49,54,120,56],16,0) 1, entry ([105,51,50,120,52],32,0) 2]) (es' := #[entry ([105,56,120,49,54],8,0) 0, entry ([105,49,54,120,56],16,0) 1, entry ([105,51,50,120,52],32,0) 2, entry ([105,54,52,120,50],64,0) 3]) (c := 3) (s := ⟨#[105, 54, 52, 120, 50]⟩) (val := .agg #[.int .i64 64, .bool false]) hm hk rfl rfl (by kernel_rfl) (by kernel_rfl) (by kernel_rfl) hw2 (by kernel_rfl) (by kernel_rfl) ?_
  refine wpl_build rfl rfl (cs := #[.int .i64 32, .bool true]) (by kernel_rfl) ?_
  refine wpl_insert (m := .tmp 4) (kk := .const (.string ⟨#[102, 51, 50, 120, 52]⟩)) (x := .tmp 9) (es := #[entry ([105,56,120,49,54],8,0) 0, entry ([105,49,54,120,56],16,0) 1, entry ([105,51,50,120,52],32,0) 2, entry ([105,54,52,120,50],64,0) 3]) (es' := #[entry ([105,56,120,49,54],8,0) 0, entry ([105,49,54,120,56],16,0) 1, entry ([105,51,50,120,52],32,0) 2, entry ([105,54,52,120,50],64,0) 3, entry ([102,51,50,120,52],32,1) 4]) (c := 4) (s := ⟨#[102, 51, 50, 120, 52]⟩) (val := .agg #[.int .i64 32, .bool true]) hm hk rfl rfl (by kernel_rfl) (by kernel_rfl) (by kernel_rfl) hw2 (by kernel_rfl) (by kernel_rfl) ?_
  refine wpl_build rfl rfl (cs := #[.int .i64 64, .bool true]) (by kernel_rfl) ?_
  refine wpl_insert (m := .tmp 4) (kk := .const (.string ⟨#[102, 54, 52, 120, 50]⟩)) (x := .tmp 10) (es := #[entry ([105,56,120,49,54],8,0) 0, entry ([105,49,54,120,56],16,0) 1, entry ([105,51,50,120,52],32,0) 2, entry ([105,54,52,120,50],64,0) 3, entry ([102,51,50,120,52],32,1) 4]) (es' := #[entry ([105,56,120,49,54],8,0) 0, entry ([105,49,54,120,56],16,0) 1, entry ([105,51,50,120,52],32,0) 2, entry ([105,54,52,120,50],64,0) 3, entry ([102,51,50,120,52],32,1) 4, entry ([102,54,52,120,50],64,1) 5]) (c := 5) (s := ⟨#[102, 54, 52, 120, 50]⟩) (val := .agg #[.int .i64 64, .bool true]) hm hk rfl rfl (by kernel_rfl) (by kernel_rfl) (by kernel_rfl) hw2 (by kernel_rfl) (by kernel_rfl) ?_
  refine wpl_move (x := .tmp 4) (v := .map (some (w.heap.size + 1))) rfl (.inl rfl) (by kernel_rfl) ?_
  refine wpl_move (x := .tmp 11) (v := .map (some (w.heap.size + 1))) rfl (.inr rfl) (by kernel_rfl) ?_
  refine wpList_nil ?_
  obtain ⟨fa, hfa, hfv⟩ := find_shape s shapes 0 0
  have hes : es6.toList = (shapes.zipIdx 0).map fun x => entry x.1 x.2 := rfl
  refine wp_seq (wp_region_lit (wpl_move (x := .tmp 3) (v := .map (some (w.heap.size + 1))) rfl (.inl rfl) (by kernel_rfl) ?_))
  refine wpl_move (x := .tmp 0) (v := .string ⟨s.toArray⟩) rfl (.inl rfl) (by kernel_rfl) ?_
  refine wpl_look (m := .tmp 12) (kk := .tmp 13) (s := ⟨s.toArray⟩) (es := es6) (a' := fa) hm hk rfl rfl (by kernel_rfl) (by kernel_rfl) hw2 hz (by rw [hes]; exact hfa) hfv ?_
  have hcell : (mw w2 (w.heap.size + 1) es6 6).heap[w.heap.size]? = some (.cells #[.int .i64 0, .bool false] 54 (0, 0)) := by
    simp only [mw]
    rw [Array.getElem?_setIfInBounds_ne (by omega)]
    exact ((MapKept.heap_alloc w1 _).2 w.heap.size (by simp [w1])).trans (MapKept.heap_alloc w _).1
  refine wpl_store (x := .tmp 2) (y := .tmp 14) (g := w.heap.size) (c1 := .int .i64 ((shapeOf s shapes).1 : Int)) (c2 := .bool (decide ((shapeOf s shapes).2 ≠ 0))) rfl rfl (by kernel_rfl) (by kernel_rfl) hs rfl rfl hcell rfl ?_
  refine wpList_nil (wp_ret ⟨rfl, .agg #[.int .i64 ((shapeOf s shapes).1 : Int), .bool (decide ((shapeOf s shapes).2 ≠ 0))], ?_, rfl, ?_⟩)
  · have hrow := setRow_heap (mw w2 (w.heap.size + 1) es6 6) w.heap.size _ #[.int .i64 ((shapeOf s shapes).1 : Int), .bool (decide ((shapeOf s shapes).2 ≠ 0))] 54 (0, 0) hcell
    have hag : ∀ w', (isAgg 54).run Tryz.prog w' = .ok true w' := fun w' => isAgg_run Tryz.prog (t := 54) (by kernel_rfl) w'
    have hld := run_loadCells_list (P := Tryz.prog) ((mw w2 (w.heap.size + 1) es6 6).setRow w.heap.size #[.int .i64 ((shapeOf s shapes).1 : Int), .bool (decide ((shapeOf s shapes).2 ≠ 0))]) ⟨w.heap.size, 0, none⟩
      [.int .i64 ((shapeOf s shapes).1 : Int), .bool (decide ((shapeOf s shapes).2 ≠ 0))] (fun j v hj => by
        rw [add_plain', cell_of_row _ _ _ _ _ _ hrow]
        simpa using hj)
    have hfr : Tryz.f35.results.toList = [.cell 2 54] := rfl
    have hres : ∀ ts : Array Value, results Tryz.f35 ts = (Tryz.f35.results.mapM (resSem ts) >>= fun vs => pure (if h : vs.size = 1 then vs[0] else .tuple vs)) := fun _ => rfl
    have key : ∀ ts : Array Value, ts.getD 2 undef = .pointer (some ⟨w.heap.size, 0, none⟩) →
        (results Tryz.f35 ts).run Tryz.prog ((mw w2 (w.heap.size + 1) es6 6).setRow w.heap.size #[.int .i64 ((shapeOf s shapes).1 : Int), .bool (decide ((shapeOf s shapes).2 ≠ 0))]) =
          .ok (.agg #[.int .i64 ((shapeOf s shapes).1 : Int), .bool (decide ((shapeOf s shapes).2 ≠ 0))]) ((mw w2 (w.heap.size + 1) es6 6).setRow w.heap.size #[.int .i64 ((shapeOf s shapes).1 : Int), .bool (decide ((shapeOf s shapes).2 ≠ 0))]) := by
      intro ts hts
      rw [hres, Array.mapM_eq_mapM_toList, hfr]
      simp only [List.mapM_cons, List.mapM_nil, resSem, hts, asAddr, loadVar]
      have hld' : (loadCells ⟨w.heap.size, 0, none⟩ 2).run Tryz.prog ((mw w2 (w.heap.size + 1) es6 6).setRow w.heap.size #[.int .i64 ((shapeOf s shapes).1 : Int), .bool (decide ((shapeOf s shapes).2 ≠ 0))]) = _ := hld
      generalize decide ((shapeOf s shapes).2 ≠ 0) = bb at hld' ⊢
      simp [hag, hs, hld']
    exact key _ (by kernel_rfl)
  · have b1 : Below w.heap.size w w1 := (Below.refl _ w).alloc (Nat.le_refl _) _
    have b2 : Below w.heap.size w w2 := b1.alloc (by simp [w1]) _
    have b3 : Below w.heap.size w (mw w2 (w.heap.size + 1) es6 6) := b2.trans ⟨rfl, rfl, rfl, by simp [mw], fun k hk => by
      simp only [mw]
      exact Array.getElem?_setIfInBounds_ne (by omega)⟩
    exact b3.trans ⟨rfl, rfl, rfl, by simp, fun k hk => setRow_other _ _ _ _ (by omega)⟩

end Sx
end Go.Proofs.YtfdggebddcoeeaaGreatDoor
end
