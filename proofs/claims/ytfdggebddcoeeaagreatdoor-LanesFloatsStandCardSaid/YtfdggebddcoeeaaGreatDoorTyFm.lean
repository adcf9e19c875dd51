/-
  How two floats stand: the program and the reference come to the same.
-/
import Derived.Test.YtfdggebddcoeeaaGreatDoorTyFl
import Derived.Test.YtfdggebddcoeeaaGreatDoorTyFw
import Derived.Test.YtfdggebddcoeeaaGreatDoorTyLw
import Derived.OwnWalk
set_option linter.unusedVariables false
set_option linter.unusedSimpArgs false
set_option maxRecDepth 100000
noncomputable section
namespace Go.Proofs.YtfdggebddcoeeaaGreatDoor
namespace Sx
open Go Go.RowKit

def LeafFR (f : FuncId) (n op : Nat) : Prop := ∀ x y : Int, inR .u64 x → inR .u64 y → ∀ w, CX Tryz.prog f #[.int .i64 n, .int .i64 op, .int .u64 x, .int .u64 y] w (fun u w' => u = .tuple #[.bool (FR n op x y), .int .i64 0] ∧ Below w.heap.size w w')
def isBo (r : R) (a : SE) : Bool := match r with
  | some (v, _, _) => match v with
    | .tup l => match l with
      | [x, y] => match x with
        | .bool e => match y with
          | .int j z => match z with
            | .lit z => cond (int0 z) (cond (decide (j = .i64)) (SE.beq e a) false) false
            | _ => false
          | _ => false
        | _ => false
      | _ => false
    | _ => false
  | none => false
theorem isBo_ok {r : R} {a : SE} (h : isBo r a = true) : ∃ hp k, r = some (.tup [.bool a, .int .i64 (.lit 0)], hp, k) := by
  unfold isBo at h
  repeat' (split at h)
  all_goals first
    | (cases h; done)
    | (rename_i z
       cases h1 : int0 z <;> rw [h1] at h <;> try (cases h; done)
       rename_i j _
       simp only [Bool.cond_true] at h
       cases h3 : decide (j = IntKind.i64) <;> rw [h3] at h <;> try (cases h; done)
       rw [of_decide_eq_true h3, (int0_iff z).1 h1, SE.beq_eq h]
       exact ⟨_, _, rfl⟩)
theorem leafFR_prog {n op : Nat} (hn : n = 32 ∨ n = 64) (ho : 1 ≤ op ∧ op ≤ 6) (h : isBo (run0 [] 105 (args2 n op)) (relE n op (.md (.var 0) 64) (.md (.var 1) 64)) = true) : LeafFR 105 n op := by
  intro x y hx hy w
  obtain ⟨hp, k, e⟩ := isBo_ok h
  have hc := leaf_cx e (vars2 x y) (fun p hp => by cases hp) (wf2 (by omega) (by omega)) w
  rw [den2 n op rfl rfl hx hy] at hc
  refine cx_mono hc fun v w' hv => ?_
  obtain ⟨⟨loc', h1⟩, h2, _⟩ := hv
  refine ⟨?_, h2⟩
  rw [h1]
  have e0 : (SE.md (.var 0) 64).den (vars2 x y) = x := u64_id hx
  have e1 : (SE.md (.var 1) 64).den (vars2 x y) = y := u64_id hy
  have hd := relE_den (vars2 x y) hn ho (a := .md (.var 0) 64) (b := .md (.var 1) 64) (by rw [e0]; exact hx) (by rw [e1]; exact hy)
  rw [e0, e1] at hd
  simp only [SV.den, denL, hd]
  cases FR n op x y <;> rfl
theorem prel32_1 : LeafFR 105 32 1 := leafFR_prog (by decide) (by decide) (by kernel_rfl)
theorem prel32_2 : LeafFR 105 32 2 := leafFR_prog (by decide) (by decide) (by kernel_rfl)
theorem prel32_3 : LeafFR 105 32 3 := leafFR_prog (by decide) (by decide) (by kernel_rfl)
theorem prel32_4 : LeafFR 105 32 4 := leafFR_prog (by decide) (by decide) (by kernel_rfl)
theorem prel32_5 : LeafFR 105 32 5 := leafFR_prog (by decide) (by decide) (by kernel_rfl)
theorem prel32_6 : LeafFR 105 32 6 := leafFR_prog (by decide) (by decide) (by kernel_rfl)
theorem prel64_1 : LeafFR 105 64 1 := leafFR_prog (by decide) (by decide) (by kernel_rfl)
theorem prel64_2 : LeafFR 105 64 2 := leafFR_prog (by decide) (by decide) (by kernel_rfl)
theorem prel64_3 : LeafFR 105 64 3 := leafFR_prog (by decide) (by decide) (by kernel_rfl)
theorem prel64_4 : LeafFR 105 64 4 := leafFR_prog (by decide) (by decide) (by kernel_rfl)
theorem prel64_5 : LeafFR 105 64 5 := leafFR_prog (by decide) (by decide) (by kernel_rfl)
theorem prel64_6 : LeafFR 105 64 6 := leafFR_prog (by decide) (by decide) (by kernel_rfl)

/-! the reference -/
theorem drew_below {w w1 w2 : World} (h1 : Drew w w1) (h2 : Drew w1 w2) : Below w.heap.size w w2 := by
  rcases h1 with rfl | rfl <;> rcases h2 with rfl | rfl
  · exact Below.refl _ _
  · exact (Below.refl _ _).drew
  · exact (Below.refl _ _).drew
  · exact ((Below.refl _ _).drew).drew
theorem order_wide {a b r s : Nat} (h1 : Fx.isNaN Ieee.single a = false → r = Fx.widen a) (h2 : Fx.isNaN Ieee.single a = true → Fx.isNaN Ieee.double r = true) (h3 : Fx.isNaN Ieee.single b = false → s = Fx.widen b) (h4 : Fx.isNaN Ieee.single b = true → Fx.isNaN Ieee.double s = true) :
    Ieee.double.order r s = Ieee.single.order a b := by
  have e64 : (2 : Nat) ≤ Ieee.double.exponentBits := by decide
  have e32 : (2 : Nat) ≤ Ieee.single.exponentBits := by decide
  cases ha : Fx.isNaN Ieee.single a
  · cases hb : Fx.isNaN Ieee.single b
    · rw [h1 ha, h3 hb]
      refine Fx.order_widen ?_ ?_
      · simpa [Fx.isNaN] using ha
      · simpa [Fx.isNaN] using hb
    · rw [(Fx.order_none _ e64 _ _).2 (.inr (h4 hb)), (Fx.order_none _ e32 _ _).2 (.inr hb)]
  · rw [(Fx.order_none _ e64 _ _).2 (.inl (h2 ha)), (Fx.order_none _ e32 _ _).2 (.inl ha)]
theorem word64 {x : Int} (hx : inR .u64 x) : wordOf 64 x = x.toNat := by
  unfold wordOf
  rw [u64_id hx]
theorem word32 (x : Int) : wordOf 32 x = (x % 4294967296).toNat := rfl
theorem wrel64_1 (x y : Int) (w : World) : Calls Tryz.prog 116 #[.int .i64 64, .int .i64 1, .int .u64 x, .int .u64 y] w fun e w' => e = .returned (.tuple #[.bool (relF (Ieee.double.order x.toNat y.toNat) 1), .int .i64 0]) ∧ Below w.heap.size w w' := by
  go_enter Tryz.func116, Tryz.ntmps116
  go_wp2
  all_goals (go_ret2; exact ⟨rfl, (Below.refl _ _).alloc (Nat.le_refl _) _⟩)
theorem wrel32_1 (x y : Int) (w : World) : Calls Tryz.prog 116 #[.int .i64 32, .int .i64 1, .int .u64 x, .int .u64 y] w fun e w' => e = .returned (.tuple #[.bool (relF (Ieee.single.order (x % 4294967296).toNat (y % 4294967296).toNat) 1), .int .i64 0]) ∧ Below w.heap.size w w' := by
  obtain ⟨r, w1, hrun1, d1, a1, a2⟩ := conv_wide (x % 4294967296).toNat w
  obtain ⟨s, w2, hrun2, d2, b1, b2⟩ := conv_wide (y % 4294967296).toNat w1
  have ho := order_wide a1 a2 b1 b2
  have hb := drew_below d1 d2
  clear a1 a2 b1 b2 d1 d2
  rw [← ho]
  clear ho
  go_enter Tryz.func116, Tryz.ntmps116
  go_wp2
  all_goals (go_ret2; exact ⟨rfl, hb.alloc hb.size _⟩)
theorem rrel64_1 : LeafFR 116 64 1 := fun x y hx hy w => by
  refine cx_of_calls okP Tryz.func116 (by kernel_rfl) ((wrel64_1 x y w).mono fun e w' ⟨h1, h2⟩ => ?_)
  subst h1
  refine ⟨?_, h2⟩
  unfold FR
  rw [word64 hx, word64 hy]
  rfl
theorem rrel32_1 : LeafFR 116 32 1 := fun x y _ _ w => by
  refine cx_of_calls okP Tryz.func116 (by kernel_rfl) ((wrel32_1 x y w).mono fun e w' ⟨h1, h2⟩ => ?_)
  subst h1
  exact ⟨rfl, h2⟩
theorem wrel64_2 (x y : Int) (w : World) : Calls Tryz.prog 116 #[.int .i64 64, .int .i64 2, .int .u64 x, .int .u64 y] w fun e w' => e = .returned (.tuple #[.bool (relF (Ieee.double.order x.toNat y.toNat) 2), .int .i64 0]) ∧ Below w.heap.size w w' := by
  go_enter Tryz.func116, Tryz.ntmps116
  go_wp2
  all_goals (go_ret2; exact ⟨rfl, (Below.refl _ _).alloc (Nat.le_refl _) _⟩)
theorem wrel32_2 (x y : Int) (w : World) : Calls Tryz.prog 116 #[.int .i64 32, .int .i64 2, .int .u64 x, .int .u64 y] w fun e w' => e = .returned (.tuple #[.bool (relF (Ieee.single.order (x % 4294967296).toNat (y % 4294967296).toNat) 2), .int .i64 0]) ∧ Below w.heap.size w w' := by
  obtain ⟨r, w1, hrun1, d1, a1, a2⟩ := conv_wide (x % 4294967296).toNat w
  obtain ⟨s, w2, hrun2, d2, b1, b2⟩ := conv_wide (y % 4294967296).toNat w1
  have ho := order_wide a1 a2 b1 b2
  have hb := drew_below d1 d2
  clear a1 a2 b1 b2 d1 d2
  rw [← ho]
  clear ho
  go_enter Tryz.func116, Tryz.ntmps116
  go_wp2
  all_goals (go_ret2; exact ⟨rfl, hb.alloc hb.size _⟩)
theorem rrel64_2 : LeafFR 116 64 2 := fun x y hx hy w => by
  refine cx_of_calls okP Tryz.func116 (by kernel_rfl) ((wrel64_2 x y w).mono fun e w' ⟨h1, h2⟩ => ?_)
  subst h1
  refine ⟨?_, h2⟩
  unfold FR
  rw [word64 hx, word64 hy]
  rfl
theorem rrel32_2 : LeafFR 116 32 2 := fun x y _ _ w => by
  refine cx_of_calls okP Tryz.func116 (by kernel_rfl) ((wrel32_2 x y w).mono fun e w' ⟨h1, h2⟩ => ?_)
  subst h1
  exact ⟨rfl, h2⟩
theorem wrel64_3 (x y : Int) (w : World) : Calls Tryz.prog 116 #[.int .i64 64, .int .i64 3, .int .u64 x, .int .u64 y] w fun e w' => e = .returned (.tuple #[.bool (relF (Ieee.double.order x.toNat y.toNat) 3), .int .i64 0]) ∧ Below w.heap.size w w' := by
  go_enter Tryz.func116, Tryz.ntmps116
  go_wp2
  all_goals (go_ret2; exact ⟨rfl, (Below.refl _ _).alloc (Nat.le_refl _) _⟩)
theorem wrel32_3 (x y : Int) (w : World) : Calls Tryz.prog 116 #[.int .i64 32, .int .i64 3, .int .u64 x, .int .u64 y] w fun e w' => e = .returned (.tuple #[.bool (relF (Ieee.single.order (x % 4294967296).toNat (y % 4294967296).toNat) 3), .int .i64 0]) ∧ Below w.heap.size w w' := by
  obtain ⟨r, w1, hrun1, d1, a1, a2⟩ := conv_wide (x % 4294967296).toNat w
  obtain ⟨s, w2, hrun2, d2, b1, b2⟩ := conv_wide (y % 4294967296).toNat w1
  have ho := order_wide a1 a2 b1 b2
  have hb := drew_below d1 d2
  clear a1 a2 b1 b2 d1 d2
  rw [← ho]
  clear ho
  go_enter Tryz.func116, Tryz.ntmps116
  go_wp2
  all_goals (go_ret2; exact ⟨rfl, hb.alloc hb.size _⟩)
theorem rrel64_3 : LeafFR 116 64 3 := fun x y hx hy w => by
  refine cx_of_calls okP Tryz.func116 (by kernel_rfl) ((wrel64_3 x y w).mono fun e w' ⟨h1, h2⟩ => ?_)
  subst h1
  refine ⟨?_, h2⟩
  unfold FR
  rw [word64 hx, word64 hy]
  rfl
theorem rrel32_3 : LeafFR 116 32 3 := fun x y _ _ w => by
  refine cx_of_calls okP Tryz.func116 (by kernel_rfl) ((wrel32_3 x y w).mono fun e w' ⟨h1, h2⟩ => ?_)
  subst h1
  exact ⟨rfl, h2⟩
theorem wrel64_4 (x y : Int) (w : World) : Calls Tryz.prog 116 #[.int .i64 64, .int .i64 4, .int .u64 x, .int .u64 y] w fun e w' => e = .returned (.tuple #[.bool (relF (Ieee.double.order x.toNat y.toNat) 4), .int .i64 0]) ∧ Below w.heap.size w w' := by
  go_enter Tryz.func116, Tryz.ntmps116
  go_wp2
  all_goals (go_ret2; exact ⟨rfl, (Below.refl _ _).alloc (Nat.le_refl _) _⟩)
theorem wrel32_4 (x y : Int) (w : World) : Calls Tryz.prog 116 #[.int .i64 32, .int .i64 4, .int .u64 x, .int .u64 y] w fun e w' => e = .returned (.tuple #[.bool (relF (Ieee.single.order (x % 4294967296).toNat (y % 4294967296).toNat) 4), .int .i64 0]) ∧ Below w.heap.size w w' := by
  obtain ⟨r, w1, hrun1, d1, a1, a2⟩ := conv_wide (x % 4294967296).toNat w
  obtain ⟨s, w2, hrun2, d2, b1, b2⟩ := conv_wide (y % 4294967296).toNat w1
  have ho := order_wide a1 a2 b1 b2
  have hb := drew_below d1 d2
  clear a1 a2 b1 b2 d1 d2
  rw [← ho]
  clear ho
  go_enter Tryz.func116, Tryz.ntmps116
  go_wp2
  all_goals (go_ret2; exact ⟨rfl, hb.alloc hb.size _⟩)
theorem rrel64_4 : LeafFR 116 64 4 := fun x y hx hy w => by
  refine cx_of_calls okP Tryz.func116 (by kernel_rfl) ((wrel64_4 x y w).mono fun e w' ⟨h1, h2⟩ => ?_)
  subst h1
  refine ⟨?_, h2⟩
  unfold FR
  rw [word64 hx, word64 hy]
  rfl
theorem rrel32_4 : LeafFR 116 32 4 := fun x y _ _ w => by
  refine cx_of_calls okP Tryz.func116 (by kernel_rfl) ((wrel32_4 x y w).mono fun e w' ⟨h1, h2⟩ => ?_)
  subst h1
  exact ⟨rfl, h2⟩
theorem wrel64_5 (x y : Int) (w : World) : Calls Tryz.prog 116 #[.int .i64 64, .int .i64 5, .int .u64 x, .int .u64 y] w fun e w' => e = .returned (.tuple #[.bool (relF (Ieee.double.order x.toNat y.toNat) 5), .int .i64 0]) ∧ Below w.heap.size w w' := by
  go_enter Tryz.func116, Tryz.ntmps116
  go_wp2
  all_goals (go_ret2; exact ⟨rfl, (Below.refl _ _).alloc (Nat.le_refl _) _⟩)
theorem wrel32_5 (x y : Int) (w : World) : Calls Tryz.prog 116 #[.int .i64 32, .int .i64 5, .int .u64 x, .int .u64 y] w fun e w' => e = .returned (.tuple #[.bool (relF (Ieee.single.order (x % 4294967296).toNat (y % 4294967296).toNat) 5), .int .i64 0]) ∧ Below w.heap.size w w' := by
  obtain ⟨r, w1, hrun1, d1, a1, a2⟩ := conv_wide (x % 4294967296).toNat w
  obtain ⟨s, w2, hrun2, d2, b1, b2⟩ := conv_wide (y % 4294967296).toNat w1
  have ho := order_wide a1 a2 b1 b2
  have hb := drew_below d1 d2
  clear a1 a2 b1 b2 d1 d2
  rw [← ho]
  clear ho
  go_enter Tryz.func116, Tryz.ntmps116
  go_wp2
  all_goals (go_ret2; exact ⟨rfl, hb.alloc hb.size _⟩)
theorem rrel64_5 : LeafFR 116 64 5 := fun x y hx hy w => by
  refine cx_of_calls okP Tryz.func116 (by kernel_rfl) ((wrel64_5 x y w).mono fun e w' ⟨h1, h2⟩ => ?_)
  subst h1
  refine ⟨?_, h2⟩
  unfold FR
  rw [word64 hx, word64 hy]
  rfl
theorem rrel32_5 : LeafFR 116 32 5 := fun x y _ _ w => by
  refine cx_of_calls okP Tryz.func116 (by kernel_rfl) ((wrel32_5 x y w).mono fun e w' ⟨h1, h2⟩ => ?_)
  subst h1
  exact ⟨rfl, h2⟩
theorem wrel64_6 (x y : Int) (w : World) : Calls Tryz.prog 116 #[.int .i64 64, .int .i64 6, .int .u64 x, .int .u64 y] w fun e w' => e = .returned (.tuple #[.bool (relF (Ieee.double.order x.toNat y.toNat) 6), .int .i64 0]) ∧ Below w.heap.size w w' := by
  go_enter Tryz.func116, Tryz.ntmps116
  go_wp2
  all_goals (go_ret2; exact ⟨rfl, (Below.refl _ _).alloc (Nat.le_refl _) _⟩)
theorem wrel32_6 (x y : Int) (w : World) : Calls Tryz.prog 116 #[.int .i64 32, .int .i64 6, .int .u64 x, .int .u64 y] w fun e w' => e = .returned (.tuple #[.bool (relF (Ieee.single.order (x % 4294967296).toNat (y % 4294967296).toNat) 6), .int .i64 0]) ∧ Below w.heap.size w w' := by
  obtain ⟨r, w1, hrun1, d1, a1, a2⟩ := conv_wide (x % 4294967296).toNat w
  obtain ⟨s, w2, hrun2, d2, b1, b2⟩ := conv_wide (y % 4294967296).toNat w1
  have ho := order_wide a1 a2 b1 b2
  have hb := drew_below d1 d2
  clear a1 a2 b1 b2 d1 d2
  rw [← ho]
  clear ho
  go_enter Tryz.func116, Tryz.ntmps116
  go_wp2
  all_goals (go_ret2; exact ⟨rfl, hb.alloc hb.size _⟩)
theorem rrel64_6 : LeafFR 116 64 6 := fun x y hx hy w => by
  refine cx_of_calls okP Tryz.func116 (by kernel_rfl) ((wrel64_6 x y w).mono fun e w' ⟨h1, h2⟩ => ?_)
  subst h1
  refine ⟨?_, h2⟩
  unfold FR
  rw [word64 hx, word64 hy]
  rfl
theorem rrel32_6 : LeafFR 116 32 6 := fun x y _ _ w => by
  refine cx_of_calls okP Tryz.func116 (by kernel_rfl) ((wrel32_6 x y w).mono fun e w' ⟨h1, h2⟩ => ?_)
  subst h1
  exact ⟨rfl, h2⟩

end Sx
end Go.Proofs.YtfdggebddcoeeaaGreatDoor
end
