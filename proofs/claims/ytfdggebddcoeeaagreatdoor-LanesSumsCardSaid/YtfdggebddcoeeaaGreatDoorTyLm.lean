/-
  Products: the reference's sum, bit by bit.
-/
import Derived.Test.YtfdggebddcoeeaaGreatDoorTyLf
set_option linter.unusedVariables false
set_option linter.unusedSimpArgs false
set_option maxRecDepth 100000
noncomputable section
namespace Go.Proofs.YtfdggebddcoeeaaGreatDoor
namespace Sx
open Go Go.RowKit

/-! the reference's bit -/
def argsT (i : Nat) : List SV := [numU 0, numL i]
def isU (r : R) (e : SE) : Bool := match r with
  | some (v, _, _) => match v with
    | .int k x => cond (decide (k = .u64)) (SE.beq x e) false
    | _ => false
  | none => false
theorem isU_ok {r : R} {e : SE} (h : isU r e = true) : ∃ hp k, r = some (.int .u64 e, hp, k) := by
  unfold isU at h
  repeat' (split at h)
  all_goals first
    | (cases h; done)
    | (rename_i k x
       cases h1 : decide (k = IntKind.u64) <;> rw [h1] at h <;> try (cases h; done)
       rw [of_decide_eq_true h1, SE.beq_eq h]
       exact ⟨_, _, rfl⟩)
theorem bits_run : allN (fun i => isU (run0 [] 159 (argsT i)) (mkMd (mkShr (.md (.var 0) 64) i) 1)) 64 = true := by kernel_rfl
theorem bit_cx {x : Int} (hx : inR .u64 x) {i : Nat} (hi : i < 64) (w : World) : CX Tryz.prog 159 #[.int .u64 x, .int .i64 i] w (fun u w' => u = .int .u64 (x / 2 ^ i % 2 ^ 1) ∧ Below w.heap.size w w') := by
  obtain ⟨hp, k, e⟩ := isU_ok (allN_ok bits_run i hi)
  have hc := leaf_cx e (vars2 x 0) (fun p hp => by cases hp) ⟨u64_md _, in_bits (by omega), trivial⟩ w
  have hd : (denL (vars2 x 0) loc0 (argsT i)).toArray = #[.int .u64 x, .int .i64 i] := by
    show #[Value.int .u64 (x % 2 ^ 64), .int .i64 (i : Int)] = _
    rw [u64_id hx]
  rw [hd] at hc
  refine cx_mono hc fun v w' hv => ?_
  obtain ⟨⟨loc', h1⟩, h2, _⟩ := hv
  refine ⟨?_, h2⟩
  rw [h1]
  simp only [SV.den, mkMd_den, mkShr_den, SE.den, va0, u64_id hx]
def smBit : Sm := fun a hp nx => match a with
  | [.int .u64 a, .int .i64 (.lit (.ofNat i))] => cond (Nat.blt i 64) (some (.int .u64 (mkMd (mkShr a i) 1), hp, nx)) none
  | _ => none
theorem smBit_ok {E : Env} {G : Gl} : SmOk E Tryz.prog G 159 smBit := by
  intro args hp nx v hp' nx' hv loc w hr hg hw
  unfold smBit at hv
  split at hv
  · rename_i a i
    cases h1 : Nat.blt i 64 <;> rw [h1] at hv <;> cases hv
    obtain ⟨wa, _⟩ := hw
    refine cx_mono (bit_cx wa (blt_yes h1) w) fun u w' ⟨e1, e2⟩ => ⟨loc, ?_, step_of_below hr e2 ?_⟩
    · rw [e1]
      simp only [SV.den, mkMd_den, mkShr_den]
    · simp only [SV.wf, mkMd_den, mkShr_den]
      have := emod_range (a.den E / 2 ^ i) 1
      simp [inR, IntKind.min, IntKind.max, IntKind.signed, IntKind.bits] at *
      omega
  · cases hv
def sumsM : Tr Sm := sums1.set 159 smBit
theorem sumsM_ok {E : Env} {G : Gl} : SumsOk E Tryz.prog G sumsM := by
  intro f s h
  unfold sumsM at h
  rcases Tr.get_set h with ⟨rfl, rfl⟩ | ⟨_, h⟩
  · exact smBit_ok
  · exact sums1_ok f s h

def mulA (n : Nat) : Nat → SE
  | 0 => mkMd (.var 0) n
  | i + 1 => mkWrap .u64 (mkMul (mulA n i) (.lit 2))
def mulB (n : Nat) : SE := mkMd (.var 1) n
def mulC (n i : Nat) : SE := mkEq (mkMd (mkShr (mulB n) i) 1) (.lit 1)
def mulT (n i : Nat) : SE := match i with
  | 0 => mulA n 0
  | i + 1 => .md (.var (101 + i)) 64
def mulS (n : Nat) : Nat → SE
  | 0 => .lit 0
  | i + 1 => mkIte (mulC n i) (mulT n i) (mulS n i)
/-- the i-th sum by its name -/
def mulP (n i : Nat) : SE × SE := (mkWrap .u64 (mkAdd (mulS n (i + 1)) (mulA n (i + 1))), .md (.var (101 + i)) 64)
def mulK (n : Nat) : Nat → List (SE × SE)
  | 0 => []
  | i + 1 => mulP n i :: mulK n i
def mulR (n : Nat) : SE := cond (Nat.beq n 64) (mulS n n) (mkMd (mulS n n) n)

/-! what they stand for -/
def aI (X : Int) (i : Nat) : Int := X * 2 ^ i % 2 ^ 64
def sI (X y : Int) : Nat → Int
  | 0 => 0
  | i + 1 => if ibit y i = 1 then (sI X y i + aI X i) % 2 ^ 64 else sI X y i
def envM (X x y : Int) : Env := ⟨fun _ _ => 0, fun _ _ _ => 0, fun i => match i with
  | 0 => x
  | 1 => y
  | i => (sI X y (i - 100) + aI X (i - 100)) % 2 ^ 64⟩
section
variable {n : Nat} {x y : Int}
theorem envM_va (X : Int) (i : Nat) : (envM X x y).va (101 + i) = (sI X y (i + 1) + aI X (i + 1)) % 2 ^ 64 := by
  show (match 101 + i with
  | 0 => x
  | 1 => y
  | i => (sI X y (i - 100) + aI X (i - 100)) % 2 ^ 64) = _
  have e : 101 + i = (99 + i) + 2 := by omega
  rw [e]
  show (sI X y ((99 + i) + 2 - 100) + aI X ((99 + i) + 2 - 100)) % 2 ^ 64 = _
  have e2 : (99 + i) + 2 - 100 = i + 1 := by omega
  rw [e2]
theorem aI_succ (X : Int) (i : Nat) : aI X i * 2 % 2 ^ 64 = aI X (i + 1) := by
  unfold aI
  rw [show X * 2 ^ (i + 1) = X * 2 ^ i * 2 by rw [Int.pow_succ 2 i, Int.mul_assoc]]
  generalize X * 2 ^ i = t
  omega
theorem mulA_den (hn : n ≤ 64) (i : Nat) : (mulA n i).den (envM (x % 2 ^ n) x y) = aI (x % 2 ^ n) i := by
  induction i with
  | zero =>
    have h1 := emod_range x n
    have h2 := two_pow_mono hn
    simp only [mulA, mkMd_den, SE.den]
    show x % 2 ^ n = _
    simp only [aI, Int.pow_zero, Int.mul_one]
    exact (emod_small ⟨h1.1, by omega⟩).symm
  | succ i ih =>
    simp only [mulA, mkWrap_den, mkMul_den, ih, SE.den]
    rw [wrap_unsigned rfl]
    exact aI_succ _ i
theorem mulC_den (X : Int) {i : Nat} (hi : i < n) : (mulC n i).den (envM X x y) = if ibit y i = 1 then 1 else 0 := by
  simp only [mulC, mkEq_den, mkMd_den, mkShr_den, mulB, SE.den]
  have e1 : (envM X x y).va 1 = y := rfl
  rw [e1]
  have : (y % 2 ^ n) / 2 ^ i % 2 ^ 1 = ibit y i := by
    rw [← ibit_mod y hi]
    simp [ibit]
  rw [this]
theorem sI_range (X : Int) (i : Nat) : 0 ≤ sI X y i ∧ sI X y i < 2 ^ 64 := by
  induction i with
  | zero => simp [sI]
  | succ i ih =>
    simp only [sI]
    split
    · exact emod_range _ _
    · exact ih
theorem mulT_den (hn : n ≤ 64) (i : Nat) : (mulT n i).den (envM (x % 2 ^ n) x y) = (sI (x % 2 ^ n) y i + aI (x % 2 ^ n) i) % 2 ^ 64 := by
  cases i with
  | zero =>
    simp only [mulT, mulA_den hn, sI, Int.zero_add]
    exact (emod_small (emod_range _ _)).symm
  | succ i =>
    simp only [mulT, SE.den, envM_va]
    exact emod_small (emod_range _ _)
theorem mulS_den (hn : n ≤ 64) : ∀ i, i ≤ n → (mulS n i).den (envM (x % 2 ^ n) x y) = sI (x % 2 ^ n) y i := by
  intro i
  induction i with
  | zero => intro _; rfl
  | succ i ih =>
    intro hi
    simp only [mulS, mkIte_den, mulC_den _ (show i < n by omega), mulT_den hn, ih (by omega), sI]
    by_cases h : ibit y i = 1
    · simp [h]
    · simp [h]
theorem mulK_holds (hn : n ≤ 64) : ∀ m, m < n → ∀ p ∈ mulK n m, p.1.den (envM (x % 2 ^ n) x y) = p.2.den (envM (x % 2 ^ n) x y) := by
  intro m
  induction m with
  | zero => intro _ p hp; cases hp
  | succ m ih =>
    intro hm p hp
    rcases List.mem_cons.1 hp with rfl | hp
    · simp only [mulP, mkWrap_den, mkAdd_den, mulS_den hn _ (show m + 1 ≤ n by omega), mulA_den hn, SE.den, envM_va]
      rw [emod_small (emod_range _ 64)]
      exact wrap_unsigned rfl _
    · exact ih (by omega) p hp
theorem emod_succ (y : Int) (i : Nat) : y % 2 ^ (i + 1) = y % 2 ^ i + 2 ^ i * ibit y i := by
  have h1 := Int.emod_add_mul_ediv y (2 ^ i)
  have h2 := Int.emod_add_mul_ediv (y / 2 ^ i) 2
  have hp := two_pow_pos i
  have hr := emod_range y i
  have hb := ibit_01 y i
  have e : y = (y % 2 ^ i + 2 ^ i * ibit y i) + 2 ^ (i + 1) * (y / 2 ^ i / 2) := by
    unfold ibit
    rw [Int.pow_succ, Int.mul_assoc, Int.add_assoc, ← Int.mul_add, h2, h1]
  conv => lhs; rw [e]
  rw [Int.add_mul_emod_self_left]
  apply Int.emod_eq_of_lt
  · rcases hb with h | h <;> rw [h] <;> omega
  · rw [Int.pow_succ]
    rcases hb with h | h <;> rw [h] <;> omega
theorem sI_eq (X y : Int) (i : Nat) : sI X y i = X * (y % 2 ^ i) % 2 ^ 64 := by
  induction i with
  | zero => simp [sI, Int.emod_one]
  | succ i ih =>
    simp only [sI]
    rw [ih, emod_succ y i]
    rcases ibit_01 y i with h | h
    · rw [h]; simp
    · rw [h, if_pos rfl, Int.mul_one, Int.mul_add]
      unfold aI
      generalize X * (y % 2 ^ i) = t
      generalize X * 2 ^ i = u
      omega
theorem mulR_den (hn : n ≤ 64) : (mulR n).den (envM (x % 2 ^ n) x y) = (x % 2 ^ n) * (y % 2 ^ n) % 2 ^ 64 % 2 ^ n := by
  unfold mulR
  cases h : Nat.beq n 64
  · simp only [cond, mkMd_den, mulS_den hn n (Nat.le_refl n), sI_eq]
  · have e := Nat.eq_of_beq_eq_true h
    subst e
    simp only [cond, mulS_den hn 64 (Nat.le_refl 64), sI_eq]
    rw [emod_small (emod_range _ 64)]
end
def isN (r : R) (a : SE) : Bool := cond (fineN 64 r) (SE.beq (numE r) a) false
theorem isN_ok {r : R} {a : SE} (h : isN r a = true) : ∃ hp k, r = some (.tup [.int .u64 a, .int .i64 (.lit 0)], hp, k) := by
  unfold isN at h
  cases h1 : fineN 64 r <;> rw [h1] at h <;> try (cases h; done)
  obtain ⟨hp, k, e, _⟩ := fineN_ok h1
  rw [← SE.beq_eq h]
  exact ⟨hp, k, e⟩
theorem leafB_mul {f n : Nat} (h64 : n ≤ 64) (h0 : 0 < n) (hr : isN (runV sumsM (mulK n (n - 1)) f (args2 n 3)) (mulR n) = true) (h63 : fineN n (run0 [] 63 (args2 n 3)) = true) {p : SE} (hp : isN (run0 [] 63 (args2 n 3)) p = true)
    (hd : ∀ x y, inR .u64 x → inR .u64 y → p.den (vars2 x y) = (x % 2 ^ n) * (y % 2 ^ n) % 2 ^ 64 % 2 ^ n) : LeafB f n 3 ∧ LeafB 63 n 3 := by
  have hn : n < 100 := by omega
  obtain ⟨hp1, k1, e1⟩ := isN_ok hr
  obtain ⟨hp2, k2, e2⟩ := isN_ok hp
  have hF : ∀ x y, inR .u64 x → inR .u64 y → F2 (codeB n 3) x y % 2 ^ n = (x % 2 ^ n) * (y % 2 ^ n) % 2 ^ 64 % 2 ^ n := fun x y hx hy => by
    rw [F2_bin hn (by decide), keyB]
    have : isSh 3 = false := rfl
    rw [this, Bool.cond_false, e2]
    show p.den (vars2 x y) % 2 ^ n = _
    rw [hd x y hx hy, Int.emod_emod_of_dvd _ (Int.dvd_refl _)]
  refine ⟨fun x y hx hy w => ?_, fun x y hx hy w => ?_⟩
  · have hc := leafS_cx (E := envM (x % 2 ^ n) x y) sumsM_ok e1 (mulK_holds h64 (n - 1) (by omega)) (wf2 hn (by decide)) w
    rw [den2 n 3 rfl rfl hx hy] at hc
    refine cx_mono hc fun v w' hv => ?_
    obtain ⟨⟨loc', h1⟩, h2, _⟩ := hv
    refine ⟨?_, h2⟩
    rw [hF x y hx hy, ← mulR_den h64]
    exact h1
  · refine cx_mono (run_num hn (by decide) rfl h63 hx hy (fun p hp => by cases hp) w) fun v w' ⟨h1, h2, _⟩ => ⟨?_, h2⟩
    rw [h1, hF x y hx hy, ← hd x y hx hy, e2]
    rfl
theorem bin16_3 : LeafB 107 16 3 ∧ LeafB 63 16 3 := leafB_mul (by decide) (by decide) (by kernel_rfl) (by kernel_rfl) (p := .md (.wrap .u64 (.mul (.md (.var 0) 16) (.md (.var 1) 16))) 16) (by kernel_rfl) fun x y _ _ => by
  simp only [SE.den, va0, va1, wrap_unsigned (k := .u64) rfl, IntKind.bits]
theorem bin32_3 : LeafB 107 32 3 ∧ LeafB 63 32 3 := leafB_mul (by decide) (by decide) (by kernel_rfl) (by kernel_rfl) (p := .md (.wrap .u64 (.mul (.md (.var 0) 32) (.md (.var 1) 32))) 32) (by kernel_rfl) fun x y _ _ => by
  simp only [SE.den, va0, va1, wrap_unsigned (k := .u64) rfl, IntKind.bits]
theorem bin64_3 : LeafB 107 64 3 ∧ LeafB 63 64 3 := leafB_mul (by decide) (by decide) (by kernel_rfl) (by kernel_rfl) (p := .wrap .u64 (.mul (.md (.var 0) 64) (.md (.var 1) 64))) (by kernel_rfl) fun x y hx hy => by
  simp only [SE.den, va0, va1, wrap_unsigned (k := .u64) rfl, IntKind.bits]
  rw [emod_small (emod_range _ 64)]

end Sx
end Go.Proofs.YtfdggebddcoeeaaGreatDoor
end
