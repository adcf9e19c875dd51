/-
  LanesFloatOnes returns true for every input and leaves its arguments as they were: the row, and the card that ties its listed package-level variables to the program's text.
  Conditions: none beyond the row's own (the listed package-level variables start as the program's text lays them).
-/
import Derived.Test.YtfdggebddcoeeaaGreatDoorFbFloatOnesR
import Derived.Test.YtfdggebddcoeeaaGreatDoorFbZF
set_option linter.unusedVariables false
set_option linter.unusedSimpArgs false
set_option maxRecDepth 100000
namespace Go.Proofs.YtfdggebddcoeeaaGreatDoor
namespace LanesFloatOnesP
open Go Go.RowKit Go.ChangeShapes Go.WideShapes Go.ChangeAt Go.Deep Go.Joins Sx

theorem lifted (os : Os) (started : os.Started) (H : Type) (enc : TypeId × Value → H) :
    ReturnsInHanded {} Tryz.checked os 13 .any (fun w args => (Rows.lanesFloatOnesSpec.pre enc Tryz.prog Tryz.f13 Rows.lanesFloatOnesRow.domain false w args ∧ laidMetH Tryz.prog Rows.lanesFloatOnesRow.laid w) ∧ sizedMet enc Tryz.prog Tryz.f13 (OpenSpec.ofChange Rows.lanesFloatOnesSpec) false w args)
      (Rows.lanesFloatOnesSpec.post enc Tryz.prog Tryz.f13 false true false false) := by
  refine returnsInHanded_of_change_and (C := Tryz.checked) (X := fun w _ => laidMetH Tryz.prog Rows.lanesFloatOnesRow.laid w) (fun _ _ _ hh h => h.of_heap hh) own started (by kernel_rfl) Tryz.func13
    (ChangeSpec.witness_shaped (enc := enc) (C := Tryz.checked) (os := os) (X := fun w _ => laidMetH Tryz.prog Rows.lanesFloatOnesRow.laid w) false (World.laidAll Tryz.prog os Rows.lanesFloatOnesRow.laid)
      #[.int .i64 0, .agg #[.int .i64 0, .int .u64 0, .int .u64 0, .bool false], .agg #[.int .i64 0, .int .u64 0, .int .u64 0, .bool false], .agg #[.int .i64 0, .int .u64 0, .int .u64 0, .bool false], .int .u64 0] 8 (World.laidAll_os _ _ _)
      (World.shaped_of_ZipB (by kernel_rfl) (by kernel_rfl)) (by kernel_rfl) (by kernel_rfl) (by kernel_rfl)
      (by rw [MakeChecks.laidMetH_plain _ _ _ (by kernel_rfl)]; exact laidMet_laidAll _ (by kernel_rfl) (by kernel_rfl))) ?_
  intro W base args ds gs before hval0 hW _ _ hL _
  have hval : ∀ (j : Nat) t v, Tryz.f13.params[j]? = some t → args[j]? = some v → Value.okWide Tryz.prog W .any base t v := hval0
  have hW' := hW
  obtain ⟨p, q, hA0, hV, rfl, _, _⟩ := hW
  have hA : DataW.TrodAll enc Tryz.prog W 0 (fun _ => true) true Tryz.f13.params.toList args.toList ds p := hA0
  rw [Tryz.params13] at hA hval
  obtain ⟨v0, r0, d0, s0, p0, q0, ea, rfl, rfl, h0, hA⟩ := trodAll_cons hA
  obtain ⟨v1, r1, d1, s1, p1, q1, rfl, rfl, rfl, h1, hA⟩ := trodAll_cons hA
  obtain ⟨v2, r2, d2, s2, p2, q2, rfl, rfl, rfl, h2, hA⟩ := trodAll_cons hA
  obtain ⟨v3, r3, d3, s3, p3, q3, rfl, rfl, rfl, h3, hA⟩ := trodAll_cons hA
  obtain ⟨v4, r4, d4, s4, p4, q4, rfl, rfl, rfl, h4, hA⟩ := trodAll_cons hA
  obtain ⟨rfl, rfl, rfl⟩ := trodAll_nil hA
  obtain rfl : args = #[v0, v1, v2, v3, v4] := Array.ext' ea
  obtain ⟨rfl, rfl⟩ := trodVars_none hV
  have k0 := h0
  have k1 := h1
  have k2 := h2
  have k3 := h3
  have k4 := h4
  obtain ⟨x, rfl, rfl, rfl, wx⟩ := open_int Tryz.underlying3 (hval 0 3 v0 rfl rfl) h0
  obtain ⟨t1, l1, m1, n1, rfl, rfl, rfl, wt1, wl1, wm1⟩ := open_val (hval 1 24 v1 rfl rfl) h1
  obtain ⟨t2, l2, m2, n2, rfl, rfl, rfl, wt2, wl2, wm2⟩ := open_val (hval 2 24 v2 rfl rfl) h2
  obtain ⟨t3, l3, m3, n3, rfl, rfl, rfl, wt3, wl3, wm3⟩ := open_val (hval 3 24 v3 rfl rfl) h3
  obtain ⟨y, rfl, rfl, rfl, wy⟩ := open_int Tryz.underlying22 (hval 4 22 v4 rfl rfl) h4
  simp [Lit.wf] at wx wy
  refine (floatOnes_runs W hL ⟨wx, wt1, wl1, wm1, wt2, wl2, wm2, wt3, wl3, wm3, wy⟩).mono fun e W' ⟨he, hb⟩ => ?_
  subst he
  have none_lt : ∀ z ∈ ([] : List MemPlace), z.block < W.heap.size := fun z hz => by cases hz
  refine ⟨_, rfl, _, _, _, [], [], [], hW', trodAll_mk1 (shut_bool Tryz.underlying4 true), ?_, rfl, World.keptBut_mono (fun _ h => by cases h) (hb.frame (fun _ => False)), fun h => by cases h⟩
  exact trodAll_cons_mk (Below.trod laidOut (by kernel_rfl) (of_decide_eq_true (by kernel_rfl)) k0 hb none_lt) (trodAll_cons_mk (Below.trod laidOut (by kernel_rfl) (of_decide_eq_true (by kernel_rfl)) k1 hb none_lt)
    (trodAll_cons_mk (Below.trod laidOut (by kernel_rfl) (of_decide_eq_true (by kernel_rfl)) k2 hb none_lt) (trodAll_cons_mk (Below.trod laidOut (by kernel_rfl) (of_decide_eq_true (by kernel_rfl)) k3 hb none_lt)
      (trodAll_mk1 (Below.trod laidOut (by kernel_rfl) (of_decide_eq_true (by kernel_rfl)) k4 hb none_lt)))))

theorem j0 : (Rows.lanesFloatOnesRow.wf (OpenSpec.ofChange Rows.lanesFloatOnesSpec)) = true := by kernel_rfl
theorem j3 : (Tryz.f13.params.all (Tryz.prog.readableRec ·)) = true := by kernel_rfl
theorem j4 : (namedTie Tryz.prog Rows.lanesFloatOnesRow.named Rows.lanesFloatOnesSpec.vars) = true := by kernel_rfl
theorem j5 : ((Rows.lanesFloatOnesRow.stops == [])) = true := by kernel_rfl
theorem j7 : ((Rows.lanesFloatOnesRow.knobs == [])) = true := by kernel_rfl
theorem j9 : ((Rows.lanesFloatOnesRow.inPlace == Tryz.prog.inPlace 13)) = true := by kernel_rfl
theorem j10 : ((Rows.lanesFloatOnesRow.unfollowed == Tryz.prog.unfollowed 13)) = true := by kernel_rfl
theorem j11 : ((Rows.lanesFloatOnesRow.recurses == Tryz.prog.recurses 13)) = true := by kernel_rfl
theorem j12 : ((Rows.lanesFloatOnesRow.named == Tryz.prog.varsNamed 13)) = true := by kernel_rfl
theorem j13 : ((Rows.lanesFloatOnesRow.maps == (Tryz.f13.params.toList ++ Rows.lanesFloatOnesSpec.plain.varTypes Tryz.prog).any (Tryz.prog.mapsRec ·))) = true := by kernel_rfl
theorem j14 : ((Rows.lanesFloatOnesRow.ifaces == (Tryz.f13.params.toList ++ Rows.lanesFloatOnesSpec.plain.varTypes Tryz.prog).any (Tryz.prog.ifacesRec ·))) = true := by kernel_rfl
theorem j15 : ((Rows.lanesFloatOnesRow.mapsOut == Tryz.prog.mapsAmong Tryz.f13.resultTypes.toList)) = true := by kernel_rfl
theorem j16 : ((Rows.lanesFloatOnesRow.loops == (Tryz.f13.params.toList ++ Rows.lanesFloatOnesSpec.plain.varTypes Tryz.prog).any (Tryz.prog.loopsFrom ·))) = true := by kernel_rfl
theorem j17 : ((Rows.lanesFloatOnesRow.wideKeys == (Tryz.f13.params.toList ++ Rows.lanesFloatOnesSpec.plain.varTypes Tryz.prog ++ Tryz.f13.resultTypes.toList).any (Tryz.prog.wideKeysFrom ·))) = true := by kernel_rfl
theorem j18 : (Rows.lanesFloatOnesSpec.vars.all (Tryz.prog.varReadable ·)) = true := by kernel_rfl
theorem j19 : (Tryz.f13.resultTypes.all (fun t => Tryz.prog.readableRec t && decide (t < Tryz.prog.types.size))) = true := by kernel_rfl
theorem j20 : ((Rows.lanesFloatOnesRow.ifacesOut == Tryz.f13.resultTypes.toList.any (Tryz.prog.ifacesRec ·))) = true := by kernel_rfl
theorem j21 : ((Rows.lanesFloatOnesRow.loopsOut == Tryz.f13.resultTypes.toList.any (Tryz.prog.loopsFrom ·))) = true := by kernel_rfl
theorem j23 : (Rows.lanesFloatOnesRow.shortTexts.isNone) = true := by kernel_rfl
theorem j28 : ((Rows.lanesFloatOnesRow.kinds == (if Rows.lanesFloatOnesRow.domain.isEmpty then [] else Tryz.f13.params.toList.map fun t => match Tryz.prog.underlying t with | some (.int k) => some k | _ => none))) = true := by kernel_rfl
theorem j29 : ((Rows.lanesFloatOnesRow.pinned == Rows.lanesFloatOnesRow.pinnedBy)) = true := by kernel_rfl
theorem j30 : ((Rows.lanesFloatOnesRow.veiled == (Tryz.f13.params.toList ++ Rows.lanesFloatOnesSpec.plain.varTypes Tryz.prog ++ Tryz.f13.resultTypes.toList).any (Tryz.prog.veiledRec ·))) = true := by kernel_rfl
theorem j31 : (Rows.lanesFloatOnesRow.veiledFits Tryz.prog Tryz.f13.params.toList (Tryz.f13.params.toList ++ Rows.lanesFloatOnesSpec.plain.varTypes Tryz.prog ++ Tryz.f13.resultTypes.toList)) = true := by kernel_rfl
theorem closed : joinedFacts Tryz.pinned.checked.prog 13 Tryz.f13 Rows.lanesFloatOnesSpec Rows.lanesFloatOnesRow = true := by
  unfold joinedFacts
  simp only [Bool.and_eq_true]
  exact ⟨⟨⟨⟨⟨⟨⟨⟨⟨⟨⟨⟨⟨⟨⟨⟨⟨⟨⟨⟨⟨⟨⟨⟨⟨⟨⟨⟨⟨⟨⟨j0, pj1⟩, pj2⟩, j3⟩, j4⟩, j5⟩, pj6⟩, j7⟩, pj8⟩, j9⟩, j10⟩, j11⟩, j12⟩, j13⟩, j14⟩, j15⟩, j16⟩, j17⟩, j18⟩, j19⟩, j20⟩, j21⟩, pj22⟩, j23⟩, pj24⟩, pj25⟩, pj26⟩, pj27⟩, j28⟩, j29⟩, j30⟩, j31⟩
theorem named : Tryz.pinned.checked.prog.funcNamed Rows.lanesFloatOnesRow.func = some 13 := by kernel_rfl
theorem inst : Tryz.f13.isInstance Tryz.pinned.checked.prog Rows.lanesFloatOnesRow.origin Rows.lanesFloatOnesRow.targs := of_decide_eq_true (by kernel_rfl)
theorem wrap : Tryz.f13.isWrapper Tryz.pinned.checked.prog Rows.lanesFloatOnesRow.wrapper Rows.lanesFloatOnesRow.mainSum := by unfold Func.isWrapper; first | (rw [if_pos (by decide +kernel)]; kernel_rfl) | (rw [if_neg (by decide +kernel)]; exact ⟨rfl, rfl⟩)
theorem holds : Rows.LanesFloatOnesSaid :=
  OpenClaim.holds_of_wide 13 Tryz.f13 rfl rfl rfl rfl rfl rfl rfl ⟨rfl, rfl, rfl, rfl, rfl⟩ rfl rfl rfl rfl rfl named Tryz.func13 closed inst wrap
    (fun os started H enc _ => lifted os started H enc)
theorem byText : Rows.lanesFloatOnesRow.wfByText (OpenSpec.ofChange Rows.lanesFloatOnesSpec) = true := by kernel_rfl
theorem goes : false = Rows.lanesFloatOnesRow.goesBy Tryz.pinned.checked.prog := by kernel_rfl
theorem card_holds : Rows.LanesFloatOnesCardSaid :=
  Claim7.holds_tied_plain_at .later [] [.data, .data, .listed, .data, .data, .pinned] true (true, "641e8e1e7a23bacccd49a5a15820cb3250e8656668c7ad00f2a59b1c4164e87e") false holds (fun _ h => by cases h) byText (fun _ h => by cases h) lanesFloatOnes_row_tie rfl ⟨rfl, rfl⟩ pjMain rfl
    (fun f fn hf hfn => by
      obtain rfl : f = 13 := Option.some.inj (named.symm.trans hf) |>.symm
      obtain rfl : fn = Tryz.f13 := (Option.some.inj (Tryz.func13.symm.trans hfn)).symm
      exact ⟨pjLooks, fun j t ht => by
        rw [Tryz.params13] at ht
        have hm : t ∈ [3, 24, 24, 24, 22] := by simpa using Array.mem_of_getElem? ht
        have hall : ([3, 24, 24, 24, 22].all fun u => !Tryz.prog.wantsStandIn u) = true := by kernel_rfl
        exact (show Tryz.prog.wantsStandIn t = false by simpa using List.all_eq_true.1 hall t hm)⟩)
    goes
#print axioms holds
#print axioms card_holds
end LanesFloatOnesP
end Go.Proofs.YtfdggebddcoeeaaGreatDoor
