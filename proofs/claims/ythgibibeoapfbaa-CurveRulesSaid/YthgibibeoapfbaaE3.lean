/-
  Numbers modulo 2^255 - 19 as a field, and its curve.
-/
import Derived.Test.YthgibibeoapfbaaE2
import Derived.Test.YthgibibeoapfbaaF3
set_option linter.unusedSimpArgs false
set_option linter.unnecessarySimpa false
set_option linter.unusedVariables false
set_option linter.unusedSectionVars false
namespace Go.Fw
instance instNZ25 : NeZero p25 := ⟨Nat.ne_of_gt p25_pos⟩
abbrev Fp := Fin p25
/-- A number's value. -/
def fv (x : Fp) : Nat := x.val
theorem fv_lt (x : Fp) : fv x < p25 := x.isLt
theorem fv_inj {x y : Fp} : fv x = fv y ↔ x = y := Fin.val_inj
def toF (n : Nat) : Fp := Fin.ofNat p25 n
theorem fv_toF (n : Nat) : fv (toF n) = n % p25 := rfl
theorem toF_fv (x : Fp) : toF (fv x) = x := by apply fv_inj.1; rw [fv_toF, Nat.mod_eq_of_lt (fv_lt x)]
theorem toF_lt {n : Nat} (h : n < p25) : fv (toF n) = n := by rw [fv_toF, Nat.mod_eq_of_lt h]
theorem fv_mul (x y : Fp) : fv (x * y) = fv x * fv y % p25 := Fin.val_mul x y
theorem fv_add (x y : Fp) : fv (x + y) = (fv x + fv y) % p25 := Fin.val_add x y
theorem fv_zero : fv (0 : Fp) = 0 := rfl
theorem fv_one : fv (1 : Fp) = 1 := by
  show 1 % p25 = 1
  exact Nat.mod_eq_of_lt (by decide)
theorem fv_neg (x : Fp) : fv (-x) = negP (fv x) := by
  have h := fv_lt x
  have e : fv (-x) = (p25 - fv x) % p25 := by
    show (-x).val = _
    rw [Fin.neg_def]
    rfl
  rw [e]
  unfold negP
  split
  · rename_i q; rw [q, Nat.sub_zero, Nat.mod_self]
  · rw [Nat.mod_eq_of_lt (by omega)]
theorem fv_sub (x y : Fp) : fv (x - y) = (fv x + negP (fv y)) % p25 := by
  rw [← fv_neg, ← fv_add]
  congr 1
  exact Fin.sub_eq_add_neg x y
theorem inv_abs (p a : Nat) (hp : 2 ≤ p) (h : a ^ (p - 1) % p = 1) : a * (a ^ (p - 2) % p) % p = 1 := by
  rw [Nat.mul_mod, Nat.mod_mod, ← Nat.mul_mod, Nat.mul_comm, ← Nat.pow_succ, show (p - 2).succ = p - 1 by omega]
  exact h
theorem pow_lt (p a e : Nat) (h : 0 < p) : a ^ e % p < p := Nat.mod_lt _ h
theorem zero_pw (p e : Nat) (he : 0 < e) : 0 ^ e % p = 0 := by rw [Nat.zero_pow he, Nat.zero_mod]
theorem inv_ex (x : Fp) (h : x ≠ 0) : ∃ y : Fp, x * y = 1 ∧ fv y = fv x ^ (p25 - 2) % p25 := by
  have hd : ¬ p25 ∣ fv x := by
    intro z
    have := Nat.eq_zero_of_dvd_of_lt z (fv_lt x)
    exact h (fv_inj.1 (by rw [this, fv_zero]))
  have h1 := inv_abs p25 (fv x) (by decide) (prm_p25.fermat1 hd)
  obtain ⟨e, he⟩ : ∃ e, e = p25 - 2 := ⟨_, rfl⟩
  rw [← he] at h1 ⊢
  refine ⟨toF (fv x ^ e % p25), ?_, toF_lt (pow_lt _ _ _ p25_pos)⟩
  apply fv_inj.1
  rw [fv_mul, toF_lt (pow_lt _ _ _ p25_pos), fv_one]
  exact h1
open Classical in
/-- What makes 1 with a number; of 0 it is 0. -/
noncomputable def invF (x : Fp) : Fp := if h : x ≠ 0 then Classical.choose (inv_ex x h) else 0
theorem invF_mul (x : Fp) (h : x ≠ 0) : x * invF x = 1 := by
  unfold invF
  rw [dif_pos h]
  exact (Classical.choose_spec (inv_ex x h)).1
theorem fv_invF (x : Fp) : fv (invF x) = fv x ^ (p25 - 2) % p25 := by
  unfold invF
  split
  · rename_i h
    exact (Classical.choose_spec (inv_ex x h)).2
  · rename_i h
    have h0 : x = 0 := Classical.not_not.1 h
    obtain ⟨e, he⟩ : ∃ e, e = p25 - 2 := ⟨_, rfl⟩
    have hpos : 0 < e := by rw [he]; decide
    rw [← he, h0, fv_zero, zero_pw _ _ hpos]
def dP : Nat := 37095705934669439343138083508754565189542113879843219016388785533085940283555
theorem dP_lt : dP < p25 := by decide +kernel
theorem dP_no : isSq dP = false := by decide +kernel
theorem rootI_lt : rootI < p25 := by decide +kernel
theorem m1_fv : fv (-1 : Fp) = p25 - 1 := by
  rw [fv_neg, fv_one]
  unfold negP
  rw [if_neg (by decide)]
/-- What is known of these numbers. -/
noncomputable def FP : Cv.Fld Fp where
  inv := invF
  nz := fun a b h => by
    have : fv a * fv b % p25 = 0 := by rw [← fv_mul, h, fv_zero]
    rcases mulP_zero this with q | q
    · left; apply fv_inj.1; rw [fv_zero, ← q, Nat.mod_eq_of_lt (fv_lt a)]
    · right; apply fv_inj.1; rw [fv_zero, ← q, Nat.mod_eq_of_lt (fv_lt b)]
  hinv := invF_mul
  one := fun h => by
    have := congrArg fv h
    rw [fv_one, fv_zero] at this
    cases this
  two := fun h => by
    have := congrArg fv h
    rw [fv_zero] at this
    have e : fv (2 : Fp) = 2 := by
      show 2 % p25 = 2
      exact Nat.mod_eq_of_lt (by decide)
    rw [e] at this
    cases this
  d := toF dP
  s := toF rootI
  hs := by
    apply fv_inj.1
    rw [fv_mul, toF_lt rootI_lt, rootI_sq, m1_fv]
  hd := fun u v h => by
    refine Classical.byContradiction fun hu => ?_
    have hi := invF_mul u hu
    have hx : v * invF u * (v * invF u) = toF dP := by
      have e : v * invF u * (v * invF u) = v * v * (invF u * invF u) := by grind
      rw [e, ← h]
      have e2 : toF dP * u * u * (invF u * invF u) = toF dP * ((u * invF u) * (u * invF u)) := by grind
      rw [e2, hi]
      grind
    have hv := congrArg fv hx
    rw [fv_mul, toF_lt dP_lt] at hv
    have h1 := (rootF_sq (fv_lt (v * invF u))).1
    rw [hv, rootF_is dP dP_lt, dP_no] at h1
    cases h1
end Go.Fw
