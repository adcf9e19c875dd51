/-
  The program's root of a float: a walk.
-/
import Derived.WalkKit
import Derived.BigGuardPart
import Derived.OwnWalk
import Derived.Laws.NewBlocks
import Derived.Test.YtfdggebddcoeeaaGreatDoorFbSa
import Derived.Test.YtfdggebddcoeeaaGreatDoorFbPart6
import Derived.Test.YtfdggebddcoeeaaGreatDoorFbDw
set_option linter.unusedVariables false
set_option linter.unusedSimpArgs false
set_option maxRecDepth 100000
noncomputable section
namespace Go.Proofs.YtfdggebddcoeeaaGreatDoor
namespace Sx
open Go Go.RowKit

/-- the format lies where it was laid -/
structure At (p q : Int) (w0 w : World) : Prop where
  below : Below w0.heap.size w0 w
  size : w0.heap.size < w.heap.size
  c0 : w.cell? ⟨w0.heap.size, 0, none⟩ = some (.int .i64 p)
  c1 : w.cell? ⟨w0.heap.size, 1, none⟩ = some (.int .i64 q)
theorem At.next {p q : Int} {w0 w w' : World} (h : At p q w0 w) (hb : Below w.heap.size w w') : At p q w0 w' :=
  ⟨h.below.trans (hb.mono (Nat.le_of_lt h.size)), Nat.lt_of_lt_of_le h.size hb.size, by rw [hb.cell h.size]; exact h.c0, by rw [hb.cell h.size]; exact h.c1⟩
theorem At.laid (p q : Int) (w : World) (t : TypeId) : At p q w (w.alloc (.cells #[.int .i64 p, .int .i64 q] t)) := by
  refine ⟨(Below.refl _ _).alloc (Nat.le_refl _) _, ?_, ?_, ?_⟩
  · show w.heap.size < (w.heap.push _).size
    rw [Array.size_push]
    omega
  · rw [World.cell?_alloc_new]; rfl
  · rw [World.cell?_alloc_new]; rfl
def RtI (M : Int) (k : Nat) (root rest : Int) : Prop := ∃ m x y : Nat, M = m ∧ root = x ∧ rest = y ∧ Fx.Rooted (Fx.topsT m k) k x y
theorem RtI.bounds {M : Int} {k : Nat} {root rest : Int} (h : RtI M k root rest) (hk : k < 62) : 0 ≤ root ∧ root < 2305843009213693952 ∧ 0 ≤ rest ∧ rest ≤ 2 * root := by
  obtain ⟨m, x, y, rfl, rfl, rfl, hr⟩ := h
  have h1 := hr.lt
  have h2 := hr.le
  have h3 : 2 ^ k ≤ 2 ^ 61 := Nat.pow_le_pow_right (by decide) (by omega)
  have h4 : (2 : Nat) ^ 61 = 2305843009213693952 := by decide
  rw [h4] at h3
  omega
def prI (M : Int) (k : Nat) : Int := (Fx.pairT M.toNat k : Nat)
theorem or_low {x y : Int} (j : Nat) (hx : 0 ≤ x) (hy : 0 ≤ y) (hyj : y < 2 ^ j) (hj : x * 2 ^ j < 2 ^ 64) (hj64 : j < 64) : bits .or .u64 (x * 2 ^ j) y = x * 2 ^ j + y := by
  obtain ⟨a, rfl⟩ := Int.eq_ofNat_of_zero_le hx
  obtain ⟨b, rfl⟩ := Int.eq_ofNat_of_zero_le hy
  have e : (a : Int) * 2 ^ j = ((a * 2 ^ j : Nat) : Int) := by push_cast; rfl
  have e2 : (2 : Int) ^ j = ((2 ^ j : Nat) : Int) := by push_cast; rfl
  rw [e] at hj ⊢
  rw [e2] at hyj
  have hb : b < 2 ^ j := by omega
  have hp : 2 ^ j < 2 ^ 64 := Nat.pow_lt_pow_right (by decide) hj64
  have h1 := bits_or_u64_nat (a * 2 ^ j) b (by omega) (by omega)
  rw [h1, ← Nat.shiftLeft_eq, ← Nat.shiftLeft_add_eq_or_of_lt hb]
  push_cast
  rfl
theorem or_4 {x y : Int} (hx : 0 ≤ x) (hx1 : x < 4611686018427387904) (hy : 0 ≤ y) (hy1 : y < 4) : bits .or .u64 (x * 4) y = x * 4 + y := or_low (x := x) 2 hx hy (by omega) (by omega) (by decide)
theorem or_2 {x : Int} (hx : 0 ≤ x) (hx1 : x < 4611686018427387904) : bits .or .u64 (x * 2) 1 = x * 2 + 1 := or_low (x := x) (y := 1) 1 hx (by omega) (by decide) (by omega) (by decide)
theorem prI_rng (M : Int) (k : Nat) : 0 ≤ prI M k ∧ prI M k < 4 := by
  have := Fx.pairT_lt M.toNat k
  unfold prI
  omega
theorem prI_big (M : Int) {k : Nat} (h : ¬ k < 32) : prI M k = 0 := by
  unfold prI Fx.pairT
  rw [if_neg h]
  rfl
theorem prI_bits {M : Int} (hM : 0 ≤ M) (hM1 : M < 18446744073709551616) {k : Nat} (h : k < 32) : bits .and .u64 (M / 2 ^ (62 - 2 * k)) 3 = prI M k := by
  obtain ⟨m, rfl⟩ := Int.eq_ofNat_of_zero_le hM
  have e : (m : Int) / 2 ^ (62 - 2 * k) = ((m / 2 ^ (62 - 2 * k) : Nat) : Int) := by push_cast; rfl
  have hle := Nat.div_le_self m (2 ^ (62 - 2 * k))
  have h1 := bits_and_u64_nat (m / 2 ^ (62 - 2 * k)) 3 (by omega) (by decide)
  rw [show (3 : Nat) = 2 ^ 2 - 1 by decide, Nat.and_two_pow_sub_one_eq_mod] at h1
  rw [e]
  unfold prI Fx.pairT
  rw [if_pos h, Int.toNat_natCast]
  exact h1
theorem RtI.up {M : Int} {k : Nat} {root rest : Int} (h : RtI M k root rest) (hk : k < 62) (hc : root * 4 + 1 ≤ rest * 4 + prI M k) : RtI M (k + 1) (root * 2 + 1) (rest * 4 + prI M k - (root * 4 + 1)) := by
  obtain ⟨m, x, y, rfl, rfl, rfl, hr⟩ := h
  unfold prI at *
  rw [Int.toNat_natCast] at *
  have h1 := hr.up (Fx.pairT_lt m k) (by omega)
  rw [← Fx.tops_step hk] at h1
  exact ⟨m, 2 * x + 1, y * 4 + Fx.pairT m k - (x * 4 + 1), rfl, by omega, by omega, h1⟩
theorem RtI.same {M : Int} {k : Nat} {root rest : Int} (h : RtI M k root rest) (hk : k < 62) (hc : rest * 4 + prI M k < root * 4 + 1) : RtI M (k + 1) (root * 2) (rest * 4 + prI M k) := by
  obtain ⟨m, x, y, rfl, rfl, rfl, hr⟩ := h
  unfold prI at *
  rw [Int.toNat_natCast] at *
  have h1 := hr.same (pair := Fx.pairT m k) (by omega)
  rw [← Fx.tops_step hk] at h1
  exact ⟨m, 2 * x, y * 4 + Fx.pairT m k, rfl, by omega, by omega, h1⟩
theorem RtI.start {m : Nat} (hm : m < 2 ^ 64) : RtI m 0 0 0 := ⟨m, 0, 0, rfl, rfl, rfl, ⟨by rw [Fx.tops_zero hm], by omega, by decide⟩⟩
set_option maxHeartbeats 4000000 in
theorem sqrt_walk {p q a sz inf m e : Int} {A R D : Int} {mr : Bool}
    (h_size : ∀ w0 w, At p q w0 w → Calls Tryz.prog 141 #[.agg #[.int .i64 p, .int .i64 q], .int .u64 a] w fun e w' => e = .returned (.int .u64 sz) ∧ At p q w0 w')
    (h_neg : ∀ w0 w, At p q w0 w → Calls Tryz.prog 153 #[.agg #[.int .i64 p, .int .i64 q], .int .u64 a] w fun e w' => e = .returned (.bool false) ∧ At p q w0 w')
    (h_inf : ∀ w0 w, At p q w0 w → Calls Tryz.prog 198 #[.agg #[.int .i64 p, .int .i64 q]] w fun e w' => e = .returned (.int .u64 inf) ∧ At p q w0 w')
    (h_parts : ∀ w0 w, At p q w0 w → Calls Tryz.prog 199 #[.agg #[.int .i64 p, .int .i64 q], .int .u64 a] w fun r w' => r = .returned (.tuple #[.int .u64 m, .int .i64 e]) ∧ At p q w0 w')
    (h_round : ∀ w0 w, At p q w0 w → Calls Tryz.prog 201 #[.agg #[.int .i64 p, .int .i64 q], .bool false, .int .u64 R, .int .i64 D, .bool mr] w fun r w' => r = .returned (.int .u64 A) ∧ At p q w0 w')
    (hsz : (sz == 0) = false) (hinf : (a == inf) = false) (hm0 : 0 < m) (hm : m < 9007199254740992) (he1 : -1200 < e) (he2 : e < 1000) {up : Int} (hup : 64 - (Lib.bitLen m.toNat : Int) = up) (hup1 : 11 ≤ up) (hup2 : up ≤ 63) {M0 M : Int} {odd : Bool} (hodd : (bits BinOp.and IntKind.i64 (e - up) 1 == 1) = odd) (hM0 : IntKind.u64.wrap (m * 2 ^ up.toNat) = M0) (hM : cond odd (M0 / 2) M0 = M) (hD : (cond odd (e - up + 1) (e - up) - 60).tdiv 2 = D) (hD1 : -3000 < D) (hD2 : D < 3000) (hMr : 0 ≤ M) (hMr1 : M < 18446744073709551616) (hst : RtI M 0 0 0) (hfin : ∀ root rest, RtI M 62 root rest → root = R ∧ (rest != 0) = mr) (w : World) :
    Calls Tryz.prog 145 #[.agg #[.int .i64 p, .int .i64 q], .int .u64 a] w fun e w' => e = .returned (.int .u64 A) ∧ Below w.heap.size w w' := by
  have hA0 := At.laid p q w 127
  cases odd
  · simp only [cond_false] at hM hD
    subst hM
    go_enter Tryz.func145, Tryz.ntmps145
    go_wp2_with (first
      | (go_at_call 141; refine (h_size _ _ (by assumption)).mono ?_; rintro _ w1 ⟨rfl, hA1⟩; have c10 := hA1.c0; have c11 := hA1.c1)
      | (go_at_call 153; refine (h_neg _ _ (by assumption)).mono ?_; rintro _ w2 ⟨rfl, hA2⟩; have c20 := hA2.c0; have c21 := hA2.c1)
      | (go_at_call 198; refine (h_inf _ _ (by assumption)).mono ?_; rintro _ w3 ⟨rfl, hA3⟩; have c30 := hA3.c0; have c31 := hA3.c1)
      | (go_at_call 200; refine (Tryz.clz64 _ _ (by omega) (by omega)).mono ?_; rintro _ w5 ⟨rfl, rfl⟩)
      | (go_at_call 199; refine (h_parts _ _ (by assumption)).mono ?_; rintro _ w4 ⟨rfl, hA4⟩; have c40 := hA4.c0; have c41 := hA4.c1))
    go_loop [8, 9, 53] (fun rt rs iv => ∃ (k : Nat) (root rest : Int), k ≤ 62 ∧ iv = .int .i64 k ∧ rt = .int .u64 root ∧ rs = .int .u64 rest ∧ RtI M0 k root rest) (fun _ _ iv => 64 - (intOf iv).toNat)
    case atStart => exact ⟨0, 0, 0, by omega, rfl, rfl, rfl, hst⟩
    case round =>
      obtain ⟨k, root, rest, hk, rfl, rfl, rfl, hr⟩ := hrel
      by_cases hk61 : k = 62
      · subst hk61
        have hrt := (hfin _ _ hr).1
        have hmr := (hfin _ _ hr).2
        clear hr
        go_wp2_with (go_at_call 201; refine (h_round _ _ (by assumption)).mono ?_; rintro _ w6 ⟨rfl, hA6⟩)
        go_ret
        exact ⟨rfl, hA6.below⟩
      · obtain ⟨b1, b2, b3, b4⟩ := hr.bounds (by omega)
        have hk62 : k < 62 := by omega
        have hroot4 := or_4 (x := root) (y := 1) b1 (by omega) (by omega) (by omega)
        have hroot2 := or_2 (x := root) b1 (by omega)
        obtain ⟨p0, p1⟩ := prI_rng M0 k
        by_cases hk32 : k < 32
        · have hpr := prI_bits hMr hMr1 hk32
          have hrest4 := or_4 (x := rest) (y := prI M0 k) b3 (by omega) p0 p1
          have hup := hr.up hk62
          have hsame := hr.same hk62
          generalize prI M0 k = pr at *
          go_wp2
          · refine ⟨⟨k + 1, root * 2 + 1, rest * 4 + pr - (root * 4 + 1), by omega, by go_num, rfl, rfl, hup (by omega)⟩, ?_⟩
            simp only [intOf]
            omega
          · refine ⟨⟨k + 1, root * 2, rest * 4 + pr, by omega, by go_num, rfl, rfl, hsame (by omega)⟩, ?_⟩
            simp only [intOf]
            omega
        · have hpr := prI_big M0 hk32
          have hrest4 := or_4 (x := rest) (y := 0) b3 (by omega) (by omega) (by omega)
          rw [Int.add_zero] at hrest4
          have hup := hr.up hk62
          have hsame := hr.same hk62
          rw [hpr, Int.add_zero] at hup hsame
          clear hpr p0 p1
          go_wp2
          · refine ⟨⟨k + 1, root * 2 + 1, rest * 4 - (root * 4 + 1), by omega, by go_num, rfl, rfl, hup (by omega)⟩, ?_⟩
            simp only [intOf]
            omega
          · refine ⟨⟨k + 1, root * 2, rest * 4, by omega, by go_num, rfl, rfl, hsame (by omega)⟩, ?_⟩
            simp only [intOf]
            omega
  · simp only [cond_true] at hM hD
    go_enter Tryz.func145, Tryz.ntmps145
    go_wp2_with (first
      | (go_at_call 141; refine (h_size _ _ (by assumption)).mono ?_; rintro _ w1 ⟨rfl, hA1⟩; have c10 := hA1.c0; have c11 := hA1.c1)
      | (go_at_call 153; refine (h_neg _ _ (by assumption)).mono ?_; rintro _ w2 ⟨rfl, hA2⟩; have c20 := hA2.c0; have c21 := hA2.c1)
      | (go_at_call 198; refine (h_inf _ _ (by assumption)).mono ?_; rintro _ w3 ⟨rfl, hA3⟩; have c30 := hA3.c0; have c31 := hA3.c1)
      | (go_at_call 200; refine (Tryz.clz64 _ _ (by omega) (by omega)).mono ?_; rintro _ w5 ⟨rfl, rfl⟩)
      | (go_at_call 199; refine (h_parts _ _ (by assumption)).mono ?_; rintro _ w4 ⟨rfl, hA4⟩; have c40 := hA4.c0; have c41 := hA4.c1))
    go_loop [8, 9, 53] (fun rt rs iv => ∃ (k : Nat) (root rest : Int), k ≤ 62 ∧ iv = .int .i64 k ∧ rt = .int .u64 root ∧ rs = .int .u64 rest ∧ RtI M k root rest) (fun _ _ iv => 64 - (intOf iv).toNat)
    case atStart => exact ⟨0, 0, 0, by omega, rfl, rfl, rfl, hst⟩
    case round =>
      obtain ⟨k, root, rest, hk, rfl, rfl, rfl, hr⟩ := hrel
      by_cases hk61 : k = 62
      · subst hk61
        have hrt := (hfin _ _ hr).1
        have hmr := (hfin _ _ hr).2
        clear hr
        go_wp2_with (go_at_call 201; refine (h_round _ _ (by assumption)).mono ?_; rintro _ w6 ⟨rfl, hA6⟩)
        go_ret
        exact ⟨rfl, hA6.below⟩
      · obtain ⟨b1, b2, b3, b4⟩ := hr.bounds (by omega)
        have hk62 : k < 62 := by omega
        have hroot4 := or_4 (x := root) (y := 1) b1 (by omega) (by omega) (by omega)
        have hroot2 := or_2 (x := root) b1 (by omega)
        obtain ⟨p0, p1⟩ := prI_rng M k
        by_cases hk32 : k < 32
        · have hpr := prI_bits hMr hMr1 hk32
          have hrest4 := or_4 (x := rest) (y := prI M k) b3 (by omega) p0 p1
          have hup := hr.up hk62
          have hsame := hr.same hk62
          generalize prI M k = pr at *
          go_wp2
          · refine ⟨⟨k + 1, root * 2 + 1, rest * 4 + pr - (root * 4 + 1), by omega, by go_num, rfl, rfl, hup (by omega)⟩, ?_⟩
            simp only [intOf]
            omega
          · refine ⟨⟨k + 1, root * 2, rest * 4 + pr, by omega, by go_num, rfl, rfl, hsame (by omega)⟩, ?_⟩
            simp only [intOf]
            omega
        · have hpr := prI_big M hk32
          have hrest4 := or_4 (x := rest) (y := 0) b3 (by omega) (by omega) (by omega)
          rw [Int.add_zero] at hrest4
          have hup := hr.up hk62
          have hsame := hr.same hk62
          rw [hpr, Int.add_zero] at hup hsame
          clear hpr p0 p1
          go_wp2
          · refine ⟨⟨k + 1, root * 2 + 1, rest * 4 - (root * 4 + 1), by omega, by go_num, rfl, rfl, hup (by omega)⟩, ?_⟩
            simp only [intOf]
            omega
          · refine ⟨⟨k + 1, root * 2, rest * 4, by omega, by go_num, rfl, rfl, hsame (by omega)⟩, ?_⟩
            simp only [intOf]
            omega

end Sx
end Go.Proofs.YtfdggebddcoeeaaGreatDoor
end
