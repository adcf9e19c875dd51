/-
  The laid package-level variables as the evaluator sees them; a law's call.
-/
import Derived.Test.YtfdggebddcoeeaaGreatDoorTyX
import Derived.Test.YtfdggebddcoeeaaGreatDoorRows
import Derived.ProofKit
import Derived.OpenShut
import Derived.LaidMore
import Derived.Lay
import Derived.ChangeSame
import Derived.ChangeVars
import Derived.JoinedOf
import Derived.RowKit
import Derived.Lib.SmallJoins
import Derived.KernelRfl
set_option linter.unusedVariables false
set_option linter.unusedSimpArgs false
noncomputable section
namespace Go.Proofs.YtfdggebddcoeeaaGreatDoor
namespace Sx
open Go Go.RowKit

/-! a laid array -/
def svD : DataW Unit → SV
  | .lit (.int k n) => .int k (.lit n)
  | .lit (.string s) => .str s
  | _ => .nilp
def tabD : DataW Unit → Tr SV
  | .agg l => tmOf (l.map svD) 0 .lf
  | _ => .lf
theorem laid_mem {P : Program} {w : World} : ∀ {laid : List (String × DataW Unit)} {ps : List MemPlace}, DataW.LaidVars P w laid ps → ∀ n d, (n, d) ∈ laid →
    ∃ g t cs fuel p, P.globalNamed n = some g ∧ (P.globals[g]?).map (·.type) = some t ∧ w.var? P n = some cs ∧ DataW.trod (fun _ => ()) P w 0 (fun _ => true) false fuel t cs.toList = some (d, p) := by
  intro laid
  induction laid with
  | nil => intro ps _ n d h; cases h
  | cons x r ih =>
    intro ps h n d hm
    obtain ⟨n', d'⟩ := x
    obtain ⟨g, t, cs, fuel, p, q, h1, h2, h3, h4, h5, _⟩ := h
    rcases List.mem_cons.1 hm with e | hm
    · cases e
      exact ⟨g, t, cs, fuel, p, h1, h2, h3, h4⟩
    · exact ih h5 n d hm
/-- an array of numbers or of texts, laid: its cells -/
theorem laid_cells {E : Env} {P : Program} {w : World} {laid : List (String × DataW Unit)} {ps : List MemPlace} (h : DataW.LaidVars P w laid ps) {n : String} {d : DataW Unit} (hm : (n, d) ∈ laid) {g t e N : Nat}
    (hg : P.globalNamed n = some g) (ht : (P.globals[g]?).map (·.type) = some t) (hu : P.underlying t = some (.array N e)) (hc : P.cellsOf e = 1) (he : P.underlying e = some .string ∨ ∃ k, P.underlying e = some (.int k)) :
    ∀ i v, (tabD d).get i = some v → (∀ loc, w.cell? ⟨g, i, none⟩ = some (v.den E loc)) ∧ v.wf E 0 ∧ oneC v = true := by
  obtain ⟨g', t', cs, fuel, p, h1, h2, h3, h4⟩ := laid_mem h n d hm
  obtain rfl := Option.some.inj (hg.symm.trans h1)
  obtain rfl := Option.some.inj (ht.symm.trans h2)
  obtain ⟨xs, m, _, ex, _, hl, hel⟩ := DataW.trod_array hu h4
  have ed : d = .agg (xs.map (·.1)) := (Prod.mk.inj ex).1
  subst ed
  intro i v hv
  rcases tmOf_get hv with ⟨_, h5⟩ | h5
  · rw [Nat.sub_zero, List.getElem?_map, List.getElem?_map] at h5
    cases hx : xs[i]? with
    | none => rw [hx] at h5; cases h5
    | some x =>
      rw [hx] at h5
      simp only [Option.map_some, Option.some.injEq] at h5
      have hi : i < N := by rw [← hl]; exact (List.getElem?_eq_some_iff.1 hx).1
      have hE := hel i hi
      rw [hc, Nat.mul_one, hx] at hE
      have cell : ∀ u, (cs.toList.drop i).take 1 = [u] → w.cell? ⟨g, i, none⟩ = some u := fun u hu => by
        rw [World.var?_cell hg h3 i]
        have h0 : ((cs.toList.drop i).take 1)[0]? = some u := by rw [hu]; rfl
        simpa using h0
      rcases he with he | ⟨k, he⟩
      · obtain ⟨s, e1, e2, _⟩ := DataW.trod_string he hE
        subst h5
        rw [e2]
        exact ⟨fun loc => by rw [cell _ e1]; simp [svD, SV.den], trivial, rfl⟩
      · obtain ⟨z, e1, e2, e3⟩ := DataW.trod_int he hE
        subst h5
        rw [e2]
        refine ⟨fun loc => by rw [cell _ e1]; simp [svD, SV.den, SE.den], ?_, rfl⟩
        simp [Lit.wf] at e3
        exact e3
  · cases h5

/-- from the evaluator to the law's call -/
theorem calls_of_cx {P : Program} (hP : OkP P) {f : FuncId} {fn : Func} (hf : P.funcs[f]? = some fn) (hb : fn.body.isSome = true) {args : Array Value} {w : World} {R : Value → World → Prop} (h : CX P f args w R) :
    Calls P f args w (fun e w' => match e with | .returned v => R v w' | _ => False) := by
  obtain ⟨c, hc⟩ := Option.isSome_iff_exists.1 hb
  have hok := hP f fn hf
  simp only [okFn, hc, Bool.and_eq_true, Bool.not_eq_true'] at hok
  have hn : (fn.name == "runtime.NumGoroutine") = false := hok.2
  have hpr : (program).run P w = .ok P w := rfl
  have hcall : (callFunc f args).run P w = .ok (.enter f args) w := by
    simp only [callFunc, Sem.run_bind, hpr, Result.andThen_ok, hf, hn, hc, Option.isNone_some, Bool.false_eq_true, if_false, Sem.run_pure]
  unfold CX at h
  rw [hcall] at h
  exact h

end Sx
end Go.Proofs.YtfdggebddcoeeaaGreatDoor
end
