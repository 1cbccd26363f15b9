/-
  Prime numbers: Fermat's little theorem, and 2^255 - 19 is one.
-/
import Derived.Test.YthgibibeoapfbaaF1
set_option linter.unusedSimpArgs false
set_option linter.unnecessarySimpa false
set_option linter.unusedVariables false
set_option linter.unusedSectionVars false
namespace Go.Fw
/-- Prime. -/
def Prm (p : Nat) : Prop := 2 ≤ p ∧ ∀ d, d ∣ p → d = 1 ∨ d = p
theorem Prm.gcd {p a : Nat} (hp : Prm p) (h : ¬ p ∣ a) : Nat.gcd p a = 1 := by
  rcases hp.2 _ (Nat.gcd_dvd_left p a) with h1 | h1
  · exact h1
  · exact absurd (h1 ▸ Nat.gcd_dvd_right p a) h
theorem Prm.mul {p a b : Nat} (hp : Prm p) (h : p ∣ a * b) : p ∣ a ∨ p ∣ b := by
  by_cases ha : p ∣ a
  · exact .inl ha
  · exact .inr (Nat.Coprime.dvd_of_dvd_mul_left (hp.gcd ha) h)
/-- In how many ways so many are taken of so many. -/
def chs : Nat → Nat → Nat
  | _, 0 => 1
  | 0, _ + 1 => 0
  | n + 1, k + 1 => chs n k + chs n (k + 1)
theorem chs_zero (n : Nat) : chs n 0 = 1 := by cases n <;> rfl
theorem chs_gt : ∀ {n k : Nat}, n < k → chs n k = 0
  | 0, k + 1, _ => rfl
  | n + 1, k + 1, h => by rw [chs, chs_gt (n := n) (k := k) (by omega), chs_gt (n := n) (k := k + 1) (by omega)]
theorem chs_self : ∀ n, chs n n = 1
  | 0 => rfl
  | n + 1 => by rw [chs, chs_self n, chs_gt (by omega)]
theorem chs_mul : ∀ n k, (k + 1) * chs (n + 1) (k + 1) = (n + 1) * chs n k
  | 0, 0 => rfl
  | 0, k + 1 => by rw [chs_gt (n := 0 + 1) (by omega), chs_gt (n := 0) (by omega), Nat.mul_zero, Nat.mul_zero]
  | n + 1, 0 => by
    have h := chs_mul n 0
    rw [chs_zero] at h ⊢
    rw [chs, chs_zero]
    omega
  | n + 1, k + 1 => by
    have h1 := chs_mul n k
    have h2 := chs_mul n (k + 1)
    rw [show chs (n + 1 + 1) (k + 1 + 1) = chs (n + 1) (k + 1) + chs (n + 1) (k + 1 + 1) from rfl, show chs (n + 1) (k + 1) = chs n k + chs n (k + 1) from rfl] at *
    rw [Nat.mul_add, h2]
    have e1 : (k + 1 + 1) * (chs n k + chs n (k + 1)) = (k + 1) * (chs n k + chs n (k + 1)) + (chs n k + chs n (k + 1)) := Nat.succ_mul _ _
    rw [e1, h1]
    have e2 : (n + 1 + 1) * (chs n k + chs n (k + 1)) = (n + 1) * (chs n k + chs n (k + 1)) + (chs n k + chs n (k + 1)) := Nat.succ_mul _ _
    rw [e2, Nat.mul_add]
    omega
theorem Prm.chs {p k : Nat} (hp : Prm p) (h1 : 0 < k) (h2 : k < p) : p ∣ chs p k := by
  obtain ⟨n, rfl⟩ : ∃ n, p = n + 1 := ⟨p - 1, by omega⟩
  obtain ⟨j, rfl⟩ : ∃ j, k = j + 1 := ⟨k - 1, by omega⟩
  have h := chs_mul n j
  rcases hp.mul (a := j + 1) (b := Go.Fw.chs (n + 1) (j + 1)) ⟨_, h⟩ with h3 | h3
  · exact absurd (Nat.le_of_dvd (by omega) h3) (by omega)
  · exact h3
/-- A sum of so many ways. -/
def chsS (n x : Nat) : Nat → Nat
  | 0 => 0
  | m + 1 => chsS n x m + chs n m * x ^ m
theorem chsS_succ (n x : Nat) : ∀ m, chsS (n + 1) x (m + 1) = x * chsS n x m + chsS n x (m + 1)
  | 0 => by simp [chsS, chs_zero]
  | m + 1 => by
    rw [chsS, chsS_succ n x m, chsS, chsS, show chs (n + 1) (m + 1) = chs n m + chs n (m + 1) from rfl, Nat.add_mul, Nat.mul_add, Nat.pow_succ]
    have : x * (chs n m * x ^ m) = chs n m * (x ^ m * x) := by ac_rfl
    rw [chsS]
    omega
theorem chsS_pow (x : Nat) : ∀ n, chsS n x (n + 1) = (x + 1) ^ n
  | 0 => by simp [chsS, chs_zero]
  | n + 1 => by
    have h := chsS_pow x n
    rw [chsS_succ, h, chsS, h, chs_gt (by omega), Nat.pow_succ (x + 1) n, Nat.mul_add, Nat.mul_comm x]
    omega
theorem chsS_mod {p : Nat} (hp : Prm p) (x : Nat) : ∀ m, 0 < m → m ≤ p → chsS p x m % p = 1
  | 0, h, _ => by omega
  | 1, _, _ => by have := hp.1; simp only [chsS, chs_zero, Nat.pow_zero]; exact Nat.mod_eq_of_lt (by omega)
  | m + 2, _, h => by
    have ih := chsS_mod hp x (m + 1) (by omega) (by omega)
    obtain ⟨c, hc⟩ := hp.chs (k := m + 1) (by omega) (by omega)
    rw [chsS, hc, Nat.mul_assoc, Nat.add_mul_mod_self_left, ih]
theorem Prm.add_pow {p : Nat} (hp : Prm p) (x : Nat) : (x + 1) ^ p % p = (x ^ p + 1) % p := by
  have h1 := hp.1
  rw [← chsS_pow, chsS, chs_self, Nat.one_mul, Nat.add_mod, chsS_mod hp x p (by omega) (by omega), Nat.add_comm, Nat.mod_add_mod]
theorem Prm.fermat {p : Nat} (hp : Prm p) : ∀ a, a ^ p % p = a % p
  | 0 => by have := hp.1; rw [Nat.zero_pow (by omega)]
  | a + 1 => by rw [hp.add_pow, Nat.add_mod, hp.fermat a, ← Nat.add_mod]
theorem dvd_of_mod {p a b : Nat} (e : a % p = b % p) : p ∣ b - a := Nat.dvd_of_mod_eq_zero (Nat.sub_mod_eq_zero_of_mod_eq e.symm)
theorem mod_of_dvd {p a b : Nat} (hab : a ≤ b) (h : p ∣ b - a) : a % p = b % p := by
  obtain ⟨c, hc⟩ := h
  rw [show b = a + p * c by omega, Nat.add_mul_mod_self_left]
theorem mod_add_cancel {p a b : Nat} (c : Nat) (e : (a + c) % p = (b + c) % p) : a % p = b % p := by
  rcases Nat.le_total a b with hab | hab
  · have := dvd_of_mod e
    rw [Nat.add_sub_add_right] at this
    exact mod_of_dvd hab this
  · have := dvd_of_mod e.symm
    rw [Nat.add_sub_add_right] at this
    exact (mod_of_dvd hab this).symm
theorem cancel_mod {p a b c : Nat} (h : Nat.gcd p c = 1) (e : a * c % p = b * c % p) : a % p = b % p := by
  rcases Nat.le_total a b with hab | hab
  · have h1 : p ∣ (b - a) * c := by rw [Nat.sub_mul]; exact dvd_of_mod e
    exact mod_of_dvd hab (Nat.Coprime.dvd_of_dvd_mul_right h h1)
  · have h1 : p ∣ (a - b) * c := by rw [Nat.sub_mul]; exact dvd_of_mod e.symm
    exact (mod_of_dvd hab (Nat.Coprime.dvd_of_dvd_mul_right h h1)).symm
theorem Prm.fermat1 {p a : Nat} (hp : Prm p) (h : ¬ p ∣ a) : a ^ (p - 1) % p = 1 := by
  have h1 := hp.1
  have h2 := hp.fermat a
  have h3 : a ^ p = a ^ (p - 1) * a := by rw [← Nat.pow_succ, show (p - 1).succ = p by omega]
  rw [h3] at h2
  have h4 := cancel_mod (b := 1) (hp.gcd h) (by rw [h2, Nat.one_mul])
  rw [h4, Nat.mod_eq_of_lt (by omega)]
/-- No divisor from 2 up to so many. -/
def noDiv (n : Nat) : Nat → Nat → Bool
  | 0, _ => true
  | f + 1, d => n % d != 0 && noDiv n f (d + 1)
theorem noDiv_spec (n : Nat) : ∀ f d, noDiv n f d = true → ∀ k, d ≤ k → k < d + f → ¬ k ∣ n
  | 0, d, _, k, h1, h2 => by omega
  | f + 1, d, h, k, h1, h2 => by
    simp only [noDiv, Bool.and_eq_true, bne_iff_ne, ne_eq] at h
    by_cases hk : k = d
    · subst hk; intro q; exact h.1 (Nat.mod_eq_zero_of_dvd q)
    · exact noDiv_spec n f (d + 1) h.2 k (by omega) (by omega)
/-- No prime divisor up to the root. -/
theorem prm_of {n : Nat} (hn : 2 ≤ n) (h : ∀ r, Prm r → r ∣ n → ¬ r * r ≤ n) : Prm n := by
  -- every number from 2 on has a prime divisor
  have hex : ∀ m, 2 ≤ m → ∃ r, Prm r ∧ r ∣ m := by
    intro m
    induction m using Nat.strongRecOn with
    | ind m ih =>
      intro hm
      by_cases hd : ∃ d, d ∣ m ∧ d ≠ 1 ∧ d ≠ m
      · obtain ⟨d, h1, h2, h3⟩ := hd
        have h4 := Nat.le_of_dvd (by omega) h1
        have h5 : d ≠ 0 := fun q => by rw [q, Nat.zero_dvd] at h1; omega
        obtain ⟨r, hr, hrd⟩ := ih d (by omega) (by omega)
        exact ⟨r, hr, Nat.dvd_trans hrd h1⟩
      · refine ⟨m, ⟨hm, fun d hdm => ?_⟩, Nat.dvd_refl m⟩
        by_cases h1 : d = 1
        · exact .inl h1
        · by_cases h2 : d = m
          · exact .inr h2
          · exact absurd ⟨d, hdm, h1, h2⟩ hd
  refine ⟨hn, fun d hd => ?_⟩
  by_cases h1 : d = 1
  · exact .inl h1
  by_cases h2 : d = n
  · exact .inr h2
  exfalso
  obtain ⟨e, he⟩ := hd
  have hd0 : d ≠ 0 := fun q => by rw [q, Nat.zero_mul] at he; omega
  have he0 : e ≠ 0 := fun q => by rw [q, Nat.mul_zero] at he; omega
  have he1 : e ≠ 1 := fun q => by rw [q, Nat.mul_one] at he; omega
  rcases Nat.le_total d e with hde | hde
  · obtain ⟨r, hr, hrd⟩ := hex d (by omega)
    have := Nat.le_of_dvd (by omega) hrd
    exact h r hr (Nat.dvd_trans hrd ⟨e, he⟩) (by rw [he]; exact Nat.mul_le_mul this (by omega))
  · obtain ⟨r, hr, hrd⟩ := hex e (by omega)
    have := Nat.le_of_dvd (by omega) hrd
    exact h r hr (Nat.dvd_trans hrd ⟨d, by rw [he]; exact Nat.mul_comm _ _⟩) (by rw [he]; exact Nat.mul_le_mul (by omega) this)
/-- Tried by division. -/
theorem prm_small (n s : Nat) (hn : 2 ≤ n) (hs : n < (s + 2) * (s + 2)) (h : noDiv n s 2 = true) : Prm n := by
  refine prm_of hn fun r hr hd hle => ?_
  have h1 := hr.1
  have h2 : r < s + 2 := by
    rcases Nat.lt_or_ge r (s + 2) with q | q
    · exact q
    · have := Nat.mul_le_mul q q; omega
  exact noDiv_spec n s 2 h r h1 (by omega) hd
/-- A number to coprime powers. -/
theorem pow_gcd {r b : Nat} (hr : 1 < r) (u v : Nat) (hu : b ^ u % r = 1) (hv : b ^ v % r = 1) : b ^ Nat.gcd u v % r = 1 := by
  induction u using Nat.strongRecOn generalizing v with
  | ind u ih =>
    by_cases h0 : u = 0
    · subst h0; rw [Nat.gcd_zero_left]; exact hv
    · rw [Nat.gcd_rec]
      refine ih (v % u) (Nat.mod_lt _ (by omega)) u ?_ hu
      have e : v = u * (v / u) + v % u := (Nat.div_add_mod v u).symm
      rw [e, Nat.pow_add, Nat.mul_mod, Nat.pow_mul, ← pow_mod_mod, hu, Nat.one_pow, Nat.mod_eq_of_lt hr, Nat.one_mul, Nat.mod_mod] at hv
      exact hv
/-- A prime divisor of a number whose lower part has a prime divisor. -/
theorem pock {n a q r : Nat} (hq : Prm q) (hqn : q ∣ n - 1) (h1 : a ^ (n - 1) % n = 1) (h2 : Nat.gcd (a ^ ((n - 1) / q) % n + (n - 1)) n = 1) (hn : 1 < n) (hr : Prm r) (hrn : r ∣ n) : q ∣ r - 1 := by
  have hr1 := hr.1
  have hmod : ∀ x, x % n % r = x % r := fun x => Nat.mod_mod_of_dvd x hrn
  have g1 : (a ^ ((n - 1) / q)) ^ q % r = 1 := by
    rw [← Nat.pow_mul, Nat.div_mul_cancel hqn, ← hmod, h1, Nat.mod_eq_of_lt (by omega)]
  have g2 : ¬ a ^ ((n - 1) / q) % r = 1 := fun h => by
    have : r ∣ a ^ ((n - 1) / q) % n + (n - 1) := by
      refine Nat.dvd_of_mod_eq_zero ?_
      rw [Nat.add_mod, hmod, h, Nat.add_mod_mod, show 1 + (n - 1) = n by omega]
      exact Nat.mod_eq_zero_of_dvd hrn
    have h3 := Nat.dvd_gcd this hrn
    rw [h2] at h3
    have := Nat.le_of_dvd (by decide) h3
    omega
  generalize a ^ ((n - 1) / q) = b at g1 g2
  have g3 : ¬ r ∣ b := fun h => by
    have hq1 := hq.1
    have : r ∣ b ^ q := by rw [show q = (q - 1) + 1 by omega, Nat.pow_succ]; exact Nat.dvd_trans h (Nat.dvd_mul_left _ _)
    rw [Nat.mod_eq_zero_of_dvd this] at g1
    omega
  have g4 := hr.fermat1 g3
  by_cases hd : q ∣ r - 1
  · exact hd
  · have g5 := pow_gcd (by omega) q (r - 1) g1 g4
    rw [hq.gcd hd, Nat.pow_one] at g5
    exact absurd g5 g2
/-- Two primes of the lower part. -/
theorem pock2 {n a q s : Nat} (hq : Prm q) (hs : Prm s) (hqs : Nat.gcd q s = 1) (hqn : q ∣ n - 1) (hsn : s ∣ n - 1) (h1 : pwm n a 256 (n - 1) = 1) (hn : 1 < n) (hb : n < 2 ^ 256) (h2 : Nat.gcd (pwm n a 256 ((n - 1) / q) + (n - 1)) n = 1) (h3 : Nat.gcd (pwm n a 256 ((n - 1) / s) + (n - 1)) n = 1) (hl : n < q * s * (q * s)) : Prm n := by
  have hm : n - 1 < 2 ^ 256 := by omega
  have hm1 : ∀ k, (n - 1) / k < 2 ^ 256 := fun k => Nat.lt_of_le_of_lt (Nat.div_le_self _ _) hm
  rw [pwm_eq _ _ _ _ hm] at h1
  rw [pwm_eq _ _ _ _ (hm1 q)] at h2
  rw [pwm_eq _ _ _ _ (hm1 s)] at h3
  refine prm_of (by omega) fun r hr hrn hle => ?_
  have d1 := pock hq hqn h1 h2 hn hr hrn
  have d2 := pock hs hsn h1 h3 hn hr hrn
  have d3 := Nat.Coprime.mul_dvd_of_dvd_of_dvd hqs d1 d2
  have := hr.1
  have d4 := Nat.le_of_dvd (by omega) d3
  have := Nat.mul_le_mul (show q * s ≤ r by omega) (show q * s ≤ r by omega)
  omega
theorem prm_127 : Prm 127 := prm_small 127 10 (by decide) (by decide) (by decide +kernel)
theorem prm_3 : Prm 3 := prm_small 3 0 (by decide) (by decide) (by decide +kernel)
theorem prm_75707 : Prm 75707 := prm_small 75707 274 (by decide) (by decide) (by decide +kernel)
theorem prm_a : Prm 1923133 := prm_small 1923133 1386 (by decide) (by decide) (by decide +kernel)
theorem prm_b : Prm 8574133 := prm_small 8574133 2927 (by decide) (by decide) (by decide +kernel)
theorem prm_c : Prm 1919519569386763 := pock2 (a := 2) prm_b prm_127 (by decide +kernel) (by decide +kernel) (by decide +kernel) (by decide +kernel) (by decide) (by decide) (by decide +kernel) (by decide +kernel) (by decide)
theorem prm_d : Prm 75445702479781427272750846543864801 := pock2 (a := 2) prm_c prm_75707 (by decide +kernel) (by decide +kernel) (by decide +kernel) (by decide +kernel) (by decide) (by decide) (by decide +kernel) (by decide +kernel) (by decide)
theorem prm_e : Prm 74058212732561358302231226437062788676166966415465897661863160754340907 := pock2 (a := 2) prm_d prm_a (by decide +kernel) (by decide +kernel) (by decide +kernel) (by decide +kernel) (by decide) (by decide) (by decide +kernel) (by decide +kernel) (by decide)
/-- 2^255 - 19. -/
def p25 : Nat := 57896044618658097711785492504343953926634992332820282019728792003956564819949
theorem prm_p25 : Prm p25 := pock2 (n := 57896044618658097711785492504343953926634992332820282019728792003956564819949) (a := 2) prm_e prm_3 (by decide +kernel) (by decide +kernel) (by decide +kernel) (by decide +kernel) (by decide) (by decide) (by decide +kernel) (by decide +kernel) (by decide)
/-- Which numbers are squares, and their roots. -/
def isSq (a : Nat) : Bool := a % p25 == 0 || pwm p25 a 255 ((p25 - 1) / 2) == 1
end Go.Fw
