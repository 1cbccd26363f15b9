/-
  Square roots modulo 2^255 - 19.
-/
import Derived.Test.YthgibibeoapfbaaPR
set_option linter.unusedSimpArgs false
set_option linter.unnecessarySimpa false
set_option linter.unusedVariables false
set_option linter.unusedSectionVars false
namespace Go.Fw
theorem p25_pos : 0 < p25 := by decide
/-- A root of -1. -/
def rootI : Nat := 19681161376707505956807079304988542015446066515923890162744021073123829784752
/-- The other side of a number. -/
def negP (a : Nat) : Nat := if a = 0 then 0 else p25 - a
/-- A number whose square is a number, if there is one. -/
def rootR (a : Nat) : Nat :=
  if pwm p25 a 256 ((p25 + 3) / 8) * pwm p25 a 256 ((p25 + 3) / 8) % p25 = a then pwm p25 a 256 ((p25 + 3) / 8) else pwm p25 a 256 ((p25 + 3) / 8) * rootI % p25
/-- The even root of a number, if there is one. -/
def rootF (a : Nat) : Nat × Bool :=
  if rootR a * rootR a % p25 = a then (if rootR a % 2 = 1 then negP (rootR a) else rootR a, true) else (0, false)
theorem rootI_sq : rootI * rootI % p25 = p25 - 1 := by decide +kernel
theorem m1_sq : (p25 - 1) * (p25 - 1) % p25 = 1 := by decide +kernel
theorem negP_lt (a : Nat) : negP a < p25 := by
  have := p25_pos
  unfold negP; split <;> omega
theorem rootR_lt (a : Nat) : rootR a < p25 := by
  unfold rootR; split
  · rw [pwm_eq _ _ _ _ (by decide +kernel)]; exact Nat.mod_lt _ p25_pos
  · exact Nat.mod_lt _ p25_pos
theorem neg_sq {a : Nat} (h : a ≤ p25) : (p25 - a) * (p25 - a) % p25 = a * a % p25 := by
  obtain ⟨b, hb⟩ : ∃ b, p25 = a + b := ⟨p25 - a, by omega⟩
  rw [hb, Nat.add_sub_cancel_left]
  have h1 : (b * b + a * b) % (a + b) = 0 := by rw [← Nat.add_mul, Nat.add_comm b a, Nat.mul_mod_right]
  have h2 : (a * a + a * b) % (a + b) = 0 := by rw [← Nat.mul_add, Nat.mul_mod_left]
  have h3 : (b * b + a * b) % (a + b) = (a * a + a * b) % (a + b) := by rw [h1, h2]
  exact mod_add_cancel (a * b) h3
theorem negP_sq {a : Nat} (h : a < p25) : negP a * negP a % p25 = a * a % p25 := by
  unfold negP; split
  · rename_i q; rw [q]
  · exact neg_sq (by omega)
/-- A product is 0 just if a factor is. -/
theorem mulP_zero {a b : Nat} (h : a * b % p25 = 0) : a % p25 = 0 ∨ b % p25 = 0 := by
  rcases prm_p25.mul (Nat.dvd_of_mod_eq_zero h) with q | q
  · exact .inl (Nat.mod_eq_zero_of_dvd q)
  · exact .inr (Nat.mod_eq_zero_of_dvd q)
/-- Two numbers with one square. -/
theorem sq_two {a b : Nat} (ha : a < p25) (hb : b < p25) (h : a * a % p25 = b * b % p25) : a = b ∨ a = negP b := by
  have h0 := p25_pos
  have h1 : ((a + b) * (a + (p25 - b))) % p25 = 0 := by
    have e : (a + b) * (a + (p25 - b)) + b * b = a * a + p25 * a + p25 * b := by
      obtain ⟨c, hc⟩ : ∃ c, p25 = b + c := ⟨p25 - b, by omega⟩
      rw [hc, Nat.add_sub_cancel_left]
      simp only [Nat.add_mul, Nat.mul_add]
      have := Nat.mul_comm a b; have := Nat.mul_comm a c; have := Nat.mul_comm b c
      omega
    have e2 : ((a + b) * (a + (p25 - b)) + b * b) % p25 = (0 + b * b) % p25 := by
      rw [e, Nat.add_assoc, ← Nat.mul_add, Nat.add_mul_mod_self_left, h, Nat.zero_add]
    have e3 := mod_add_cancel (b * b) e2
    rw [e3]; exact Nat.zero_mod _
  rcases mulP_zero h1 with q | q
  · right
    unfold negP
    split
    · rename_i z; subst z; rw [Nat.add_zero, Nat.mod_eq_of_lt ha] at q; exact q
    · rcases Nat.lt_or_ge (a + b) p25 with w | w
      · rw [Nat.mod_eq_of_lt w] at q; omega
      · rw [Nat.mod_eq_sub_mod w, Nat.mod_eq_of_lt (by omega)] at q; omega
  · left
    rcases Nat.lt_or_ge (a + (p25 - b)) p25 with w | w
    · rw [Nat.mod_eq_of_lt w] at q; omega
    · rw [Nat.mod_eq_sub_mod w] at q
      rcases Nat.lt_or_ge (a + (p25 - b) - p25) p25 with v | v
      · rw [Nat.mod_eq_of_lt v] at q; omega
      · omega
theorem one_sq {a : Nat} (ha : a < p25) (h : a * a % p25 = 1) : a = 1 ∨ a = p25 - 1 := by
  have h1 : 1 < p25 := by decide
  have := sq_two ha h1 (by rw [h, Nat.mod_eq_of_lt h1])
  rw [negP, if_neg (by decide)] at this
  exact this
/-- The root of a number that has one. -/
theorem rootR_sq {x : Nat} (hx : x < p25) : rootR (x * x % p25) * rootR (x * x % p25) % p25 = x * x % p25 := by
  have hpos := p25_pos
  by_cases h0 : x = 0
  · subst h0; decide +kernel
  have hnd : ¬ p25 ∣ x := fun q => by have := Nat.le_of_dvd (by omega) q; omega
  have hf := prm_p25.fermat1 hnd
  -- to the power (p - 1) / 4: 1, or -1
  obtain ⟨b, hb⟩ : ∃ b, b = (x * x) ^ ((p25 - 1) / 4) % p25 := ⟨_, rfl⟩
  have hb2 : b * b % p25 = 1 := by
    rw [hb, ← Nat.mul_mod, ← Nat.pow_add, show (p25 - 1) / 4 + (p25 - 1) / 4 = (p25 - 1) / 2 by decide, ← Nat.pow_two, ← Nat.pow_mul, show 2 * ((p25 - 1) / 2) = p25 - 1 by decide]
    exact hf
  have hb1 := one_sq (by rw [hb]; exact Nat.mod_lt _ hpos) hb2
  obtain ⟨r, hr⟩ : ∃ r, r = pwm p25 (x * x % p25) 256 ((p25 + 3) / 8) := ⟨_, rfl⟩
  have hr2 : r * r % p25 = x * x * b % p25 := by
    rw [hr, pwm_eq _ _ _ _ (by decide +kernel), pow_mod_mod, ← Nat.mul_mod, ← Nat.pow_add, show (p25 + 3) / 8 + (p25 + 3) / 8 = 1 + (p25 - 1) / 4 by decide, Nat.pow_add, Nat.pow_one, hb, Nat.mul_mod_mod]
  unfold rootR
  rw [← hr]
  split
  · rename_i h; exact h
  · rename_i h
    rcases hb1 with q | q
    · rw [q, Nat.mul_one] at hr2; exact absurd hr2 h
    · rw [← Nat.mul_mod, show r * rootI * (r * rootI) = r * r * (rootI * rootI) by ac_rfl, Nat.mul_mod, hr2, rootI_sq, q, Nat.mod_mul_mod, Nat.mul_assoc, Nat.mul_mod, m1_sq, Nat.mul_one, Nat.mod_mod]
/-- A number is a square just if it is one to the power (p - 1) / 2, or 0. -/
theorem rootF_is (a : Nat) (ha : a < p25) : (rootF a).2 = isSq a := by
  have hpos := p25_pos
  have e : (rootF a).2 = decide (rootR a * rootR a % p25 = a) := by unfold rootF; split <;> simp [*]
  rw [e, Bool.eq_iff_iff, decide_eq_true_eq]
  simp only [isSq, Bool.or_eq_true, beq_iff_eq]
  rw [Nat.mod_eq_of_lt ha]
  constructor
  · intro h
    by_cases h0 : a = 0
    · exact .inl h0
    · right
      have hnd : ¬ p25 ∣ rootR a := fun q => h0 (by rw [← h, Nat.mul_mod, Nat.mod_eq_zero_of_dvd q, Nat.zero_mul, Nat.zero_mod])
      have hf := prm_p25.fermat1 hnd
      rw [pwm_eq _ _ _ _ (by decide +kernel), ← h, pow_mod_mod, ← Nat.pow_two, ← Nat.pow_mul, show 2 * ((p25 - 1) / 2) = p25 - 1 by decide]
      exact hf
  · rintro (h | h)
    · subst h; decide +kernel
    · -- a root by the same power
      rw [pwm_eq _ _ _ _ (by decide +kernel)] at h
      obtain ⟨b, hb⟩ : ∃ b, b = a ^ ((p25 - 1) / 4) % p25 := ⟨_, rfl⟩
      have hb2 : b * b % p25 = 1 := by
        rw [hb, ← Nat.mul_mod, ← Nat.pow_add, show (p25 - 1) / 4 + (p25 - 1) / 4 = (p25 - 1) / 2 by decide, h]
      have hb1 := one_sq (by rw [hb]; exact Nat.mod_lt _ hpos) hb2
      obtain ⟨r, hr⟩ : ∃ r, r = pwm p25 a 256 ((p25 + 3) / 8) := ⟨_, rfl⟩
      have hr2 : r * r % p25 = a * b % p25 := by
        rw [hr, pwm_eq _ _ _ _ (by decide +kernel), ← Nat.mul_mod, ← Nat.pow_add, show (p25 + 3) / 8 + (p25 + 3) / 8 = 1 + (p25 - 1) / 4 by decide, Nat.pow_add, Nat.pow_one, hb, Nat.mul_mod_mod]
      unfold rootR
      rw [← hr]
      split
      · rename_i h; exact h
      · rename_i h
        rcases hb1 with q | q
        · rw [q, Nat.mul_one, Nat.mod_eq_of_lt ha] at hr2; exact absurd hr2 h
        · rw [← Nat.mul_mod, show r * rootI * (r * rootI) = r * r * (rootI * rootI) by ac_rfl, Nat.mul_mod, hr2, rootI_sq, q, Nat.mod_mul_mod, Nat.mul_assoc, Nat.mul_mod, m1_sq, Nat.mul_one, Nat.mod_mod, Nat.mod_eq_of_lt ha]
theorem rootF_no {a : Nat} (h : (rootF a).2 = false) : (rootF a).1 = 0 := by
  unfold rootF at *; split at h
  · simp at h
  · rename_i q; rw [if_neg q]
theorem rootF_yes {a : Nat} (h : (rootF a).2 = true) : (rootF a).1 % 2 = 0 ∧ (rootF a).1 < p25 ∧ (rootF a).1 * (rootF a).1 % p25 = a := by
  have hl := rootR_lt a
  unfold rootF at *; split at h
  · rename_i q
    rw [if_pos q]
    simp only
    split
    · rename_i w
      refine ⟨?_, negP_lt _, by rw [negP_sq hl, q]⟩
      unfold negP
      rw [if_neg (by omega)]
      have : p25 % 2 = 1 := by decide
      omega
    · exact ⟨by omega, hl, q⟩
  · simp at h
theorem rootF_sq {x : Nat} (hx : x < p25) : (rootF (x * x % p25)).2 = true ∧ ((rootF (x * x % p25)).1 = x ∨ (rootF (x * x % p25)).1 = negP x) := by
  have h : (rootF (x * x % p25)).2 = true := by unfold rootF; rw [if_pos (rootR_sq hx)]
  obtain ⟨_, h2, h3⟩ := rootF_yes h
  exact ⟨h, sq_two h2 hx h3⟩
end Go.Fw
