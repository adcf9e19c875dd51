/-
  A law's frame: its arguments opened.
-/
import Derived.Test.YtfdggebddcoeeaaGreatDoorTyZ
import Derived.Carry
import Derived.Test.YtfdggebddcoeeaaGreatDoorCards
import Derived.Test.YtfdggebddcoeeaaGreatDoorTie
import Derived.SevenTiedAt
import Derived.Stop.Joined
set_option linter.unusedVariables false
set_option linter.unusedSimpArgs false
set_option maxRecDepth 100000
noncomputable section
namespace Go.Proofs.YtfdggebddcoeeaaGreatDoor
namespace Sx
open Go Go.RowKit Go.ChangeShapes Go.WideShapes Go.ChangeAt Go.Deep Go.Joins

theorem own : ownKnob Tryz.prog.godebug = none := by kernel_rfl
theorem laidOut : laidOutB Tryz.prog = true := by kernel_rfl
theorem u24 : ∃ f0 f1 f2 f3, Tryz.prog.underlying 24 = some (.struct #[f0, f1, f2, f3]) ∧ f0.type = 3 ∧ f1.type = 22 ∧ f2.type = 22 ∧ f3.type = 4 ∧ oneCellFields Tryz.prog #[f0, f1, f2, f3] = true := ⟨_, _, _, _, Tryz.underlying24, rfl, rfl, rfl, rfl, by kernel_rfl⟩
theorem c24 : Tryz.prog.cellsOf 24 = 4 := by kernel_rfl
/-- an api.Value, opened -/
theorem open_val {H : Type} {enc : TypeId × Value → H} {w : World} {base : Nat} {spare : Nat → Bool} {held : Bool} {r : Reach} {b0 : Nat} {v : Value} {d : DataW H} {p : List MemPlace}
    (hv : Value.okWide Tryz.prog w r b0 24 v) (h : DataW.Trod enc Tryz.prog w base spare held 24 v d p) :
    ∃ (t l m : Int) (n : Bool), v = .agg #[.int .i64 t, .int .u64 l, .int .u64 m, .bool n] ∧ d = .agg [.lit (.int .i64 t), .lit (.int .u64 l), .lit (.int .u64 m), .lit (.bool n)] ∧ p = [] ∧
      inR .i64 t ∧ inR .u64 l ∧ inR .u64 m := by
  obtain ⟨f0, f1, f2, f3, hu, t0, t1, t2, t3, hone⟩ := u24
  obtain ⟨v0, v1, v2, v3, y0, y1, y2, y3, n, rfl, rfl, rfl, h0, h1, h2, h3⟩ := open_agg4 hu hone c24 hv h
  rw [t0] at h0
  rw [t1] at h1
  rw [t2] at h2
  rw [t3] at h3
  obtain ⟨a, e0, rfl, w0⟩ := DataW.trod_int Tryz.underlying3 h0
  obtain ⟨b, e1, rfl, w1⟩ := DataW.trod_int Tryz.underlying22 h1
  obtain ⟨c, e2, rfl, w2⟩ := DataW.trod_int Tryz.underlying22 h2
  obtain ⟨x, e3, rfl⟩ := DataW.trod_bool Tryz.underlying4 h3
  cases e0
  cases e1
  cases e2
  cases e3
  simp [Lit.wf] at w0 w1 w2
  exact ⟨a, b, c, x, rfl, rfl, rfl, w0, w1, w2⟩

end Sx
end Go.Proofs.YtfdggebddcoeeaaGreatDoor
end
