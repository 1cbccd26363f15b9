/-
  Texts that belong together.
-/
import Derived.Test.YthgibibeoapfbaaN1
set_option linter.unusedSimpArgs false
set_option linter.unnecessarySimpa false
set_option linter.unusedVariables false
set_option linter.unusedSectionVars false
/-
  Numbers as digits of fifteen bits; powers modulo a number.
-/
namespace Go.Fw
/-- A digit of fifteen bits. -/
def dig (n k : Nat) : Nat := n / 32768 ^ k % 32768
/-- What digits come to. -/
def vs (g : Nat → Nat) : Nat → Nat
  | 0 => 0
  | n + 1 => vs g n + g n * 32768 ^ n
theorem dig_lt (n k : Nat) : dig n k < 32768 := Nat.mod_lt _ (by decide)
theorem vs_dig (n : Nat) : ∀ m, vs (dig n) m = n % 32768 ^ m
  | 0 => by simp [vs, Nat.mod_one]
  | m + 1 => by
    rw [vs, vs_dig n m, dig, Nat.pow_succ, Nat.mod_mul, Nat.mul_comm]
theorem vs_ext {g h : Nat → Nat} : ∀ {m : Nat}, (∀ k, k < m → g k = h k) → vs g m = vs h m
  | 0, _ => rfl
  | m + 1, e => by rw [vs, vs, vs_ext (m := m) (fun k hk => e k (by omega)), e m (by omega)]
theorem vs_lt {g : Nat → Nat} : ∀ {m : Nat}, (∀ k, k < m → g k < 32768) → vs g m < 32768 ^ m
  | 0, _ => by simp [vs]
  | m + 1, e => by
    have h1 := vs_lt (g := g) (m := m) (fun k hk => e k (by omega))
    have h2 := e m (by omega)
    rw [vs, Nat.pow_succ]
    have : g m * 32768 ^ m ≤ 32767 * 32768 ^ m := Nat.mul_le_mul_right _ (by omega)
    omega
/-- The digits of what digits come to. -/
theorem dig_vs {g : Nat → Nat} : ∀ {m : Nat}, (∀ k, k < m → g k < 32768) → ∀ k, k < m → dig (vs g m) k = g k
  | 0, _, k, hk => by omega
  | m + 1, e, k, hk => by
    have h1 := vs_lt (g := g) (m := m) (fun k hk => e k (by omega))
    have h2 := e m (by omega)
    have hp : 0 < 32768 ^ m := Nat.pow_pos (by decide)
    rw [vs]
    by_cases hkm : k = m
    · subst hkm
      rw [dig, Nat.add_mul_div_right _ _ hp, Nat.div_eq_of_lt h1, Nat.zero_add, Nat.mod_eq_of_lt h2]
    · have ih := dig_vs (m := m) (fun k hk => e k (by omega)) k (by omega)
      rw [← ih, dig, dig]
      have hq : (0 : Nat) < 32768 ^ k := Nat.pow_pos (by decide)
      have : g m * 32768 ^ m = 32768 ^ k * (32768 * (g m * 32768 ^ (m - k - 1))) := by
        rw [show m = k + 1 + (m - k - 1) by omega, Nat.pow_add, Nat.pow_add, show k + 1 + (m - k - 1) - k - 1 = m - k - 1 by omega]
        simp only [Nat.pow_one]
        ac_rfl
      rw [this, Nat.add_mul_div_left _ _ hq, Nat.add_mul_mod_self_left]
theorem vs_upd {g : Nat → Nat} {i v : Nat} : ∀ {m : Nat}, m ≤ i → vs (upd g i v) m = vs g m
  | 0, _ => rfl
  | m + 1, h => by rw [vs, vs, vs_upd (m := m) (by omega), upd, if_neg (by omega)]
/-- A digit becomes more. -/
theorem vs_upd_add {g : Nat → Nat} {i v : Nat} : ∀ {m : Nat}, i < m → vs (upd g i (g i + v)) m = vs g m + v * 32768 ^ i
  | 0, h => by omega
  | m + 1, h => by
    by_cases hi : i = m
    · subst hi
      rw [vs, vs, vs_upd (Nat.le_refl _), upd, if_pos rfl, Nat.add_mul]
      omega
    · rw [vs, vs, vs_upd_add (m := m) (by omega), upd, if_neg (by omega)]
      omega
theorem vs_add (g h : Nat → Nat) : ∀ m, vs (fun k => g k + h k) m = vs g m + vs h m
  | 0 => rfl
  | m + 1 => by simp only [vs, vs_add g h m, Nat.add_mul]; omega
theorem vs_mul (g : Nat → Nat) (c : Nat) : ∀ m, vs (fun k => c * g k) m = c * vs g m
  | 0 => rfl
  | m + 1 => by simp only [vs, vs_mul g c m, Nat.mul_add, Nat.mul_assoc]
theorem vs_split (g : Nat → Nat) (m : Nat) : ∀ n, vs g (m + n) = vs g m + 32768 ^ m * vs (fun k => g (m + k)) n
  | 0 => by simp [vs]
  | n + 1 => by
    rw [← Nat.add_assoc, vs, vs_split g m n, vs, Nat.mul_add, Nat.pow_add]
    have : g (m + n) * (32768 ^ m * 32768 ^ n) = 32768 ^ m * (g (m + n) * 32768 ^ n) := by ac_rfl
    omega
theorem dig_split (n k : Nat) : n / 32768 ^ k = dig n k + 32768 * (n / 32768 ^ (k + 1)) := by
  rw [dig, Nat.pow_succ, ← Nat.div_div_eq_div_mul]
  omega
theorem dig_cmp {a b k : Nat} (h : a / 32768 ^ (k + 1) = b / 32768 ^ (k + 1)) (hn : dig a k ≠ dig b k) : (a < b) = (dig a k < dig b k) := by
  have ha := dig_split a k; have hb := dig_split b k
  rw [lt_div (m := 32768 ^ k) (by rw [ha, hb, h]; omega), ha, hb, h]
  simp
theorem dig_eq {a b k : Nat} (h : a / 32768 ^ (k + 1) = b / 32768 ^ (k + 1)) (hn : dig a k = dig b k) : a / 32768 ^ k = b / 32768 ^ k := by
  rw [dig_split a k, dig_split b k, h, hn]
theorem dig_bit (n i : Nat) : dig n (i / 15) / 2 ^ (i % 15) % 2 = n / 2 ^ i % 2 := by
  have h1 : (32768 : Nat) ^ (i / 15) = 2 ^ (15 * (i / 15)) := by rw [Nat.pow_mul]
  have h2 : (32768 : Nat) = 2 ^ (i % 15) * 2 ^ (15 - i % 15) := by rw [← Nat.pow_add, show i % 15 + (15 - i % 15) = 15 by omega]
  have h3 : (2 : Nat) ^ (15 - i % 15) = 2 * 2 ^ (14 - i % 15) := by rw [show 15 - i % 15 = 1 + (14 - i % 15) by omega, Nat.pow_add]
  rw [dig, h1, h2, Nat.mod_mul_right_div_self, Nat.div_div_eq_div_mul, ← Nat.pow_add, show 15 * (i / 15) + i % 15 = i by omega, h3, Nat.mod_mul_right_mod]
/-- A number to a power, modulo another one; 'f' bits of the power at most. -/
def pwm (p a : Nat) : Nat → Nat → Nat
  | 0, _ => 1 % p
  | f + 1, e => if e % 2 = 1 then a * pwm p (a * a % p) f (e / 2) % p else pwm p (a * a % p) f (e / 2)
theorem pow_mod_mod (a p e : Nat) : (a % p) ^ e % p = a ^ e % p := by
  induction e with
  | zero => rfl
  | succ e ih => rw [Nat.pow_succ, Nat.pow_succ, Nat.mul_mod, ih, Nat.mod_mod, ← Nat.mul_mod]
theorem pwm_eq (p : Nat) : ∀ (f a e : Nat), e < 2 ^ f → pwm p a f e = a ^ e % p
  | 0, a, e, h => by rw [show e = 0 by simpa using h]; rfl
  | f + 1, a, e, h => by
    have ih := pwm_eq p f (a * a % p) (e / 2) (by rw [Nat.pow_succ] at h; omega)
    have e2 : (a * a) ^ (e / 2) = a ^ (2 * (e / 2)) := by rw [Nat.pow_mul, Nat.pow_two]
    rw [pow_mod_mod, e2] at ih
    rw [pwm, ih]
    split
    · rw [Nat.mul_mod_mod, Nat.mul_comm a, ← Nat.pow_succ, show (2 * (e / 2)).succ = e by omega]
    · rw [show 2 * (e / 2) = e by omega]
end Go.Fw

/-
  Prime numbers: Fermat's little theorem, and 2^255 - 19 is one.
-/
namespace Go.Fw
/-- Prime. -/
def Prm (p : Nat) : Prop := 2 ≤ p ∧ ∀ d, d ∣ p → d = 1 ∨ d = p
theorem Prm.gcd {p a : Nat} (hp : Prm p) (h : ¬ p ∣ a) : Nat.gcd p a = 1 := by
  rcases hp.2 _ (Nat.gcd_dvd_left p a) with h1 | h1
  · exact h1
  · exact absurd (h1 ▸ Nat.gcd_dvd_right p a) h
theorem Prm.mul {p a b : Nat} (hp : Prm p) (h : p ∣ a * b) : p ∣ a ∨ p ∣ b := by
  by_cases ha : p ∣ a
  · exact .inl ha
  · exact .inr (Nat.Coprime.dvd_of_dvd_mul_left (hp.gcd ha) h)
/-- In how many ways so many are taken of so many. -/
def chs : Nat → Nat → Nat
  | _, 0 => 1
  | 0, _ + 1 => 0
  | n + 1, k + 1 => chs n k + chs n (k + 1)
theorem chs_zero (n : Nat) : chs n 0 = 1 := by cases n <;> rfl
theorem chs_gt : ∀ {n k : Nat}, n < k → chs n k = 0
  | 0, k + 1, _ => rfl
  | n + 1, k + 1, h => by rw [chs, chs_gt (n := n) (k := k) (by omega), chs_gt (n := n) (k := k + 1) (by omega)]
theorem chs_self : ∀ n, chs n n = 1
  | 0 => rfl
  | n + 1 => by rw [chs, chs_self n, chs_gt (by omega)]
theorem chs_mul : ∀ n k, (k + 1) * chs (n + 1) (k + 1) = (n + 1) * chs n k
  | 0, 0 => rfl
  | 0, k + 1 => by rw [chs_gt (n := 0 + 1) (by omega), chs_gt (n := 0) (by omega), Nat.mul_zero, Nat.mul_zero]
  | n + 1, 0 => by
    have h := chs_mul n 0
    rw [chs_zero] at h ⊢
    rw [chs, chs_zero]
    omega
  | n + 1, k + 1 => by
    have h1 := chs_mul n k
    have h2 := chs_mul n (k + 1)
    rw [show chs (n + 1 + 1) (k + 1 + 1) = chs (n + 1) (k + 1) + chs (n + 1) (k + 1 + 1) from rfl, show chs (n + 1) (k + 1) = chs n k + chs n (k + 1) from rfl] at *
    rw [Nat.mul_add, h2]
    have e1 : (k + 1 + 1) * (chs n k + chs n (k + 1)) = (k + 1) * (chs n k + chs n (k + 1)) + (chs n k + chs n (k + 1)) := Nat.succ_mul _ _
    rw [e1, h1]
    have e2 : (n + 1 + 1) * (chs n k + chs n (k + 1)) = (n + 1) * (chs n k + chs n (k + 1)) + (chs n k + chs n (k + 1)) := Nat.succ_mul _ _
    rw [e2, Nat.mul_add]
    omega
theorem Prm.chs {p k : Nat} (hp : Prm p) (h1 : 0 < k) (h2 : k < p) : p ∣ chs p k := by
  obtain ⟨n, rfl⟩ : ∃ n, p = n + 1 := ⟨p - 1, by omega⟩
  obtain ⟨j, rfl⟩ : ∃ j, k = j + 1 := ⟨k - 1, by omega⟩
  have h := chs_mul n j
  rcases hp.mul (a := j + 1) (b := Go.Fw.chs (n + 1) (j + 1)) ⟨_, h⟩ with h3 | h3
  · exact absurd (Nat.le_of_dvd (by omega) h3) (by omega)
  · exact h3
/-- A sum of so many ways. -/
def chsS (n x : Nat) : Nat → Nat
  | 0 => 0
  | m + 1 => chsS n x m + chs n m * x ^ m
theorem chsS_succ (n x : Nat) : ∀ m, chsS (n + 1) x (m + 1) = x * chsS n x m + chsS n x (m + 1)
  | 0 => by simp [chsS, chs_zero]
  | m + 1 => by
    rw [chsS, chsS_succ n x m, chsS, chsS, show chs (n + 1) (m + 1) = chs n m + chs n (m + 1) from rfl, Nat.add_mul, Nat.mul_add, Nat.pow_succ]
    have : x * (chs n m * x ^ m) = chs n m * (x ^ m * x) := by ac_rfl
    rw [chsS]
    omega
theorem chsS_pow (x : Nat) : ∀ n, chsS n x (n + 1) = (x + 1) ^ n
  | 0 => by simp [chsS, chs_zero]
  | n + 1 => by
    have h := chsS_pow x n
    rw [chsS_succ, h, chsS, h, chs_gt (by omega), Nat.pow_succ (x + 1) n, Nat.mul_add, Nat.mul_comm x]
    omega
theorem chsS_mod {p : Nat} (hp : Prm p) (x : Nat) : ∀ m, 0 < m → m ≤ p → chsS p x m % p = 1
  | 0, h, _ => by omega
  | 1, _, _ => by have := hp.1; simp only [chsS, chs_zero, Nat.pow_zero]; exact Nat.mod_eq_of_lt (by omega)
  | m + 2, _, h => by
    have ih := chsS_mod hp x (m + 1) (by omega) (by omega)
    obtain ⟨c, hc⟩ := hp.chs (k := m + 1) (by omega) (by omega)
    rw [chsS, hc, Nat.mul_assoc, Nat.add_mul_mod_self_left, ih]
theorem Prm.add_pow {p : Nat} (hp : Prm p) (x : Nat) : (x + 1) ^ p % p = (x ^ p + 1) % p := by
  have h1 := hp.1
  rw [← chsS_pow, chsS, chs_self, Nat.one_mul, Nat.add_mod, chsS_mod hp x p (by omega) (by omega), Nat.add_comm, Nat.mod_add_mod]
theorem Prm.fermat {p : Nat} (hp : Prm p) : ∀ a, a ^ p % p = a % p
  | 0 => by have := hp.1; rw [Nat.zero_pow (by omega)]
  | a + 1 => by rw [hp.add_pow, Nat.add_mod, hp.fermat a, ← Nat.add_mod]
theorem dvd_of_mod {p a b : Nat} (e : a % p = b % p) : p ∣ b - a := Nat.dvd_of_mod_eq_zero (Nat.sub_mod_eq_zero_of_mod_eq e.symm)
theorem mod_of_dvd {p a b : Nat} (hab : a ≤ b) (h : p ∣ b - a) : a % p = b % p := by
  obtain ⟨c, hc⟩ := h
  rw [show b = a + p * c by omega, Nat.add_mul_mod_self_left]
theorem mod_add_cancel {p a b : Nat} (c : Nat) (e : (a + c) % p = (b + c) % p) : a % p = b % p := by
  rcases Nat.le_total a b with hab | hab
  · have := dvd_of_mod e
    rw [Nat.add_sub_add_right] at this
    exact mod_of_dvd hab this
  · have := dvd_of_mod e.symm
    rw [Nat.add_sub_add_right] at this
    exact (mod_of_dvd hab this).symm
theorem cancel_mod {p a b c : Nat} (h : Nat.gcd p c = 1) (e : a * c % p = b * c % p) : a % p = b % p := by
  rcases Nat.le_total a b with hab | hab
  · have h1 : p ∣ (b - a) * c := by rw [Nat.sub_mul]; exact dvd_of_mod e
    exact mod_of_dvd hab (Nat.Coprime.dvd_of_dvd_mul_right h h1)
  · have h1 : p ∣ (a - b) * c := by rw [Nat.sub_mul]; exact dvd_of_mod e.symm
    exact (mod_of_dvd hab (Nat.Coprime.dvd_of_dvd_mul_right h h1)).symm
theorem Prm.fermat1 {p a : Nat} (hp : Prm p) (h : ¬ p ∣ a) : a ^ (p - 1) % p = 1 := by
  have h1 := hp.1
  have h2 := hp.fermat a
  have h3 : a ^ p = a ^ (p - 1) * a := by rw [← Nat.pow_succ, show (p - 1).succ = p by omega]
  rw [h3] at h2
  have h4 := cancel_mod (b := 1) (hp.gcd h) (by rw [h2, Nat.one_mul])
  rw [h4, Nat.mod_eq_of_lt (by omega)]
/-- No divisor from 2 up to so many. -/
def noDiv (n : Nat) : Nat → Nat → Bool
  | 0, _ => true
  | f + 1, d => n % d != 0 && noDiv n f (d + 1)
theorem noDiv_spec (n : Nat) : ∀ f d, noDiv n f d = true → ∀ k, d ≤ k → k < d + f → ¬ k ∣ n
  | 0, d, _, k, h1, h2 => by omega
  | f + 1, d, h, k, h1, h2 => by
    simp only [noDiv, Bool.and_eq_true, bne_iff_ne, ne_eq] at h
    by_cases hk : k = d
    · subst hk; intro q; exact h.1 (Nat.mod_eq_zero_of_dvd q)
    · exact noDiv_spec n f (d + 1) h.2 k (by omega) (by omega)
/-- No prime divisor up to the root. -/
theorem prm_of {n : Nat} (hn : 2 ≤ n) (h : ∀ r, Prm r → r ∣ n → ¬ r * r ≤ n) : Prm n := by
  -- every number from 2 on has a prime divisor
  have hex : ∀ m, 2 ≤ m → ∃ r, Prm r ∧ r ∣ m := by
    intro m
    induction m using Nat.strongRecOn with
    | ind m ih =>
      intro hm
      by_cases hd : ∃ d, d ∣ m ∧ d ≠ 1 ∧ d ≠ m
      · obtain ⟨d, h1, h2, h3⟩ := hd
        have h4 := Nat.le_of_dvd (by omega) h1
        have h5 : d ≠ 0 := fun q => by rw [q, Nat.zero_dvd] at h1; omega
        obtain ⟨r, hr, hrd⟩ := ih d (by omega) (by omega)
        exact ⟨r, hr, Nat.dvd_trans hrd h1⟩
      · refine ⟨m, ⟨hm, fun d hdm => ?_⟩, Nat.dvd_refl m⟩
        by_cases h1 : d = 1
        · exact .inl h1
        · by_cases h2 : d = m
          · exact .inr h2
          · exact absurd ⟨d, hdm, h1, h2⟩ hd
  refine ⟨hn, fun d hd => ?_⟩
  by_cases h1 : d = 1
  · exact .inl h1
  by_cases h2 : d = n
  · exact .inr h2
  exfalso
  obtain ⟨e, he⟩ := hd
  have hd0 : d ≠ 0 := fun q => by rw [q, Nat.zero_mul] at he; omega
  have he0 : e ≠ 0 := fun q => by rw [q, Nat.mul_zero] at he; omega
  have he1 : e ≠ 1 := fun q => by rw [q, Nat.mul_one] at he; omega
  rcases Nat.le_total d e with hde | hde
  · obtain ⟨r, hr, hrd⟩ := hex d (by omega)
    have := Nat.le_of_dvd (by omega) hrd
    exact h r hr (Nat.dvd_trans hrd ⟨e, he⟩) (by rw [he]; exact Nat.mul_le_mul this (by omega))
  · obtain ⟨r, hr, hrd⟩ := hex e (by omega)
    have := Nat.le_of_dvd (by omega) hrd
    exact h r hr (Nat.dvd_trans hrd ⟨d, by rw [he]; exact Nat.mul_comm _ _⟩) (by rw [he]; exact Nat.mul_le_mul (by omega) this)
/-- Tried by division. -/
theorem prm_small (n s : Nat) (hn : 2 ≤ n) (hs : n < (s + 2) * (s + 2)) (h : noDiv n s 2 = true) : Prm n := by
  refine prm_of hn fun r hr hd hle => ?_
  have h1 := hr.1
  have h2 : r < s + 2 := by
    rcases Nat.lt_or_ge r (s + 2) with q | q
    · exact q
    · have := Nat.mul_le_mul q q; omega
  exact noDiv_spec n s 2 h r h1 (by omega) hd
/-- A number to coprime powers. -/
theorem pow_gcd {r b : Nat} (hr : 1 < r) (u v : Nat) (hu : b ^ u % r = 1) (hv : b ^ v % r = 1) : b ^ Nat.gcd u v % r = 1 := by
  induction u using Nat.strongRecOn generalizing v with
  | ind u ih =>
    by_cases h0 : u = 0
    · subst h0; rw [Nat.gcd_zero_left]; exact hv
    · rw [Nat.gcd_rec]
      refine ih (v % u) (Nat.mod_lt _ (by omega)) u ?_ hu
      have e : v = u * (v / u) + v % u := (Nat.div_add_mod v u).symm
      rw [e, Nat.pow_add, Nat.mul_mod, Nat.pow_mul, ← pow_mod_mod, hu, Nat.one_pow, Nat.mod_eq_of_lt hr, Nat.one_mul, Nat.mod_mod] at hv
      exact hv
/-- A prime divisor of a number whose lower part has a prime divisor. -/
theorem pock {n a q r : Nat} (hq : Prm q) (hqn : q ∣ n - 1) (h1 : a ^ (n - 1) % n = 1) (h2 : Nat.gcd (a ^ ((n - 1) / q) % n + (n - 1)) n = 1) (hn : 1 < n) (hr : Prm r) (hrn : r ∣ n) : q ∣ r - 1 := by
  have hr1 := hr.1
  have hmod : ∀ x, x % n % r = x % r := fun x => Nat.mod_mod_of_dvd x hrn
  have g1 : (a ^ ((n - 1) / q)) ^ q % r = 1 := by
    rw [← Nat.pow_mul, Nat.div_mul_cancel hqn, ← hmod, h1, Nat.mod_eq_of_lt (by omega)]
  have g2 : ¬ a ^ ((n - 1) / q) % r = 1 := fun h => by
    have : r ∣ a ^ ((n - 1) / q) % n + (n - 1) := by
      refine Nat.dvd_of_mod_eq_zero ?_
      rw [Nat.add_mod, hmod, h, Nat.add_mod_mod, show 1 + (n - 1) = n by omega]
      exact Nat.mod_eq_zero_of_dvd hrn
    have h3 := Nat.dvd_gcd this hrn
    rw [h2] at h3
    have := Nat.le_of_dvd (by decide) h3
    omega
  generalize a ^ ((n - 1) / q) = b at g1 g2
  have g3 : ¬ r ∣ b := fun h => by
    have hq1 := hq.1
    have : r ∣ b ^ q := by rw [show q = (q - 1) + 1 by omega, Nat.pow_succ]; exact Nat.dvd_trans h (Nat.dvd_mul_left _ _)
    rw [Nat.mod_eq_zero_of_dvd this] at g1
    omega
  have g4 := hr.fermat1 g3
  by_cases hd : q ∣ r - 1
  · exact hd
  · have g5 := pow_gcd (by omega) q (r - 1) g1 g4
    rw [hq.gcd hd, Nat.pow_one] at g5
    exact absurd g5 g2
/-- Two primes of the lower part. -/
theorem pock2 {n a q s : Nat} (hq : Prm q) (hs : Prm s) (hqs : Nat.gcd q s = 1) (hqn : q ∣ n - 1) (hsn : s ∣ n - 1) (h1 : pwm n a 256 (n - 1) = 1) (hn : 1 < n) (hb : n < 2 ^ 256) (h2 : Nat.gcd (pwm n a 256 ((n - 1) / q) + (n - 1)) n = 1) (h3 : Nat.gcd (pwm n a 256 ((n - 1) / s) + (n - 1)) n = 1) (hl : n < q * s * (q * s)) : Prm n := by
  have hm : n - 1 < 2 ^ 256 := by omega
  have hm1 : ∀ k, (n - 1) / k < 2 ^ 256 := fun k => Nat.lt_of_le_of_lt (Nat.div_le_self _ _) hm
  rw [pwm_eq _ _ _ _ hm] at h1
  rw [pwm_eq _ _ _ _ (hm1 q)] at h2
  rw [pwm_eq _ _ _ _ (hm1 s)] at h3
  refine prm_of (by omega) fun r hr hrn hle => ?_
  have d1 := pock hq hqn h1 h2 hn hr hrn
  have d2 := pock hs hsn h1 h3 hn hr hrn
  have d3 := Nat.Coprime.mul_dvd_of_dvd_of_dvd hqs d1 d2
  have := hr.1
  have d4 := Nat.le_of_dvd (by omega) d3
  have := Nat.mul_le_mul (show q * s ≤ r by omega) (show q * s ≤ r by omega)
  omega
theorem prm_127 : Prm 127 := prm_small 127 10 (by decide) (by decide) (by decide +kernel)
theorem prm_3 : Prm 3 := prm_small 3 0 (by decide) (by decide) (by decide +kernel)
theorem prm_75707 : Prm 75707 := prm_small 75707 274 (by decide) (by decide) (by decide +kernel)
theorem prm_a : Prm 1923133 := prm_small 1923133 1386 (by decide) (by decide) (by decide +kernel)
theorem prm_b : Prm 8574133 := prm_small 8574133 2927 (by decide) (by decide) (by decide +kernel)
theorem prm_c : Prm 1919519569386763 := pock2 (a := 2) prm_b prm_127 (by decide +kernel) (by decide +kernel) (by decide +kernel) (by decide +kernel) (by decide) (by decide) (by decide +kernel) (by decide +kernel) (by decide)
theorem prm_d : Prm 75445702479781427272750846543864801 := pock2 (a := 2) prm_c prm_75707 (by decide +kernel) (by decide +kernel) (by decide +kernel) (by decide +kernel) (by decide) (by decide) (by decide +kernel) (by decide +kernel) (by decide)
theorem prm_e : Prm 74058212732561358302231226437062788676166966415465897661863160754340907 := pock2 (a := 2) prm_d prm_a (by decide +kernel) (by decide +kernel) (by decide +kernel) (by decide +kernel) (by decide) (by decide) (by decide +kernel) (by decide +kernel) (by decide)
/-- 2^255 - 19. -/
def p25 : Nat := 57896044618658097711785492504343953926634992332820282019728792003956564819949
theorem prm_p25 : Prm p25 := pock2 (n := 57896044618658097711785492504343953926634992332820282019728792003956564819949) (a := 2) prm_e prm_3 (by decide +kernel) (by decide +kernel) (by decide +kernel) (by decide +kernel) (by decide) (by decide) (by decide +kernel) (by decide +kernel) (by decide)
/-- Which numbers are squares, and their roots. -/
def isSq (a : Nat) : Bool := a % p25 == 0 || pwm p25 a 255 ((p25 - 1) / 2) == 1
end Go.Fw

/-
  Square roots modulo 2^255 - 19.
-/
namespace Go.Fw
theorem p25_pos : 0 < p25 := by decide
/-- A root of -1. -/
def rootI : Nat := 19681161376707505956807079304988542015446066515923890162744021073123829784752
/-- The other side of a number. -/
def negP (a : Nat) : Nat := if a = 0 then 0 else p25 - a
/-- A number whose square is a number, if there is one. -/
def rootR (a : Nat) : Nat :=
  if pwm p25 a 256 ((p25 + 3) / 8) * pwm p25 a 256 ((p25 + 3) / 8) % p25 = a then pwm p25 a 256 ((p25 + 3) / 8) else pwm p25 a 256 ((p25 + 3) / 8) * rootI % p25
/-- The even root of a number, if there is one. -/
def rootF (a : Nat) : Nat × Bool :=
  if rootR a * rootR a % p25 = a then (if rootR a % 2 = 1 then negP (rootR a) else rootR a, true) else (0, false)
theorem rootI_sq : rootI * rootI % p25 = p25 - 1 := by decide +kernel
theorem m1_sq : (p25 - 1) * (p25 - 1) % p25 = 1 := by decide +kernel
theorem negP_lt (a : Nat) : negP a < p25 := by
  have := p25_pos
  unfold negP; split <;> omega
theorem rootR_lt (a : Nat) : rootR a < p25 := by
  unfold rootR; split
  · rw [pwm_eq _ _ _ _ (by decide +kernel)]; exact Nat.mod_lt _ p25_pos
  · exact Nat.mod_lt _ p25_pos
theorem neg_sq {a : Nat} (h : a ≤ p25) : (p25 - a) * (p25 - a) % p25 = a * a % p25 := by
  obtain ⟨b, hb⟩ : ∃ b, p25 = a + b := ⟨p25 - a, by omega⟩
  rw [hb, Nat.add_sub_cancel_left]
  have h1 : (b * b + a * b) % (a + b) = 0 := by rw [← Nat.add_mul, Nat.add_comm b a, Nat.mul_mod_right]
  have h2 : (a * a + a * b) % (a + b) = 0 := by rw [← Nat.mul_add, Nat.mul_mod_left]
  have h3 : (b * b + a * b) % (a + b) = (a * a + a * b) % (a + b) := by rw [h1, h2]
  exact mod_add_cancel (a * b) h3
theorem negP_sq {a : Nat} (h : a < p25) : negP a * negP a % p25 = a * a % p25 := by
  unfold negP; split
  · rename_i q; rw [q]
  · exact neg_sq (by omega)
/-- A product is 0 just if a factor is. -/
theorem mulP_zero {a b : Nat} (h : a * b % p25 = 0) : a % p25 = 0 ∨ b % p25 = 0 := by
  rcases prm_p25.mul (Nat.dvd_of_mod_eq_zero h) with q | q
  · exact .inl (Nat.mod_eq_zero_of_dvd q)
  · exact .inr (Nat.mod_eq_zero_of_dvd q)
/-- Two numbers with one square. -/
theorem sq_two {a b : Nat} (ha : a < p25) (hb : b < p25) (h : a * a % p25 = b * b % p25) : a = b ∨ a = negP b := by
  have h0 := p25_pos
  have h1 : ((a + b) * (a + (p25 - b))) % p25 = 0 := by
    have e : (a + b) * (a + (p25 - b)) + b * b = a * a + p25 * a + p25 * b := by
      obtain ⟨c, hc⟩ : ∃ c, p25 = b + c := ⟨p25 - b, by omega⟩
      rw [hc, Nat.add_sub_cancel_left]
      simp only [Nat.add_mul, Nat.mul_add]
      have := Nat.mul_comm a b; have := Nat.mul_comm a c; have := Nat.mul_comm b c
      omega
    have e2 : ((a + b) * (a + (p25 - b)) + b * b) % p25 = (0 + b * b) % p25 := by
      rw [e, Nat.add_assoc, ← Nat.mul_add, Nat.add_mul_mod_self_left, h, Nat.zero_add]
    have e3 := mod_add_cancel (b * b) e2
    rw [e3]; exact Nat.zero_mod _
  rcases mulP_zero h1 with q | q
  · right
    unfold negP
    split
    · rename_i z; subst z; rw [Nat.add_zero, Nat.mod_eq_of_lt ha] at q; exact q
    · rcases Nat.lt_or_ge (a + b) p25 with w | w
      · rw [Nat.mod_eq_of_lt w] at q; omega
      · rw [Nat.mod_eq_sub_mod w, Nat.mod_eq_of_lt (by omega)] at q; omega
  · left
    rcases Nat.lt_or_ge (a + (p25 - b)) p25 with w | w
    · rw [Nat.mod_eq_of_lt w] at q; omega
    · rw [Nat.mod_eq_sub_mod w] at q
      rcases Nat.lt_or_ge (a + (p25 - b) - p25) p25 with v | v
      · rw [Nat.mod_eq_of_lt v] at q; omega
      · omega
theorem one_sq {a : Nat} (ha : a < p25) (h : a * a % p25 = 1) : a = 1 ∨ a = p25 - 1 := by
  have h1 : 1 < p25 := by decide
  have := sq_two ha h1 (by rw [h, Nat.mod_eq_of_lt h1])
  rw [negP, if_neg (by decide)] at this
  exact this
/-- The root of a number that has one. -/
theorem rootR_sq {x : Nat} (hx : x < p25) : rootR (x * x % p25) * rootR (x * x % p25) % p25 = x * x % p25 := by
  have hpos := p25_pos
  by_cases h0 : x = 0
  · subst h0; decide +kernel
  have hnd : ¬ p25 ∣ x := fun q => by have := Nat.le_of_dvd (by omega) q; omega
  have hf := prm_p25.fermat1 hnd
  -- to the power (p - 1) / 4: 1, or -1
  obtain ⟨b, hb⟩ : ∃ b, b = (x * x) ^ ((p25 - 1) / 4) % p25 := ⟨_, rfl⟩
  have hb2 : b * b % p25 = 1 := by
    rw [hb, ← Nat.mul_mod, ← Nat.pow_add, show (p25 - 1) / 4 + (p25 - 1) / 4 = (p25 - 1) / 2 by decide, ← Nat.pow_two, ← Nat.pow_mul, show 2 * ((p25 - 1) / 2) = p25 - 1 by decide]
    exact hf
  have hb1 := one_sq (by rw [hb]; exact Nat.mod_lt _ hpos) hb2
  obtain ⟨r, hr⟩ : ∃ r, r = pwm p25 (x * x % p25) 256 ((p25 + 3) / 8) := ⟨_, rfl⟩
  have hr2 : r * r % p25 = x * x * b % p25 := by
    rw [hr, pwm_eq _ _ _ _ (by decide +kernel), pow_mod_mod, ← Nat.mul_mod, ← Nat.pow_add, show (p25 + 3) / 8 + (p25 + 3) / 8 = 1 + (p25 - 1) / 4 by decide, Nat.pow_add, Nat.pow_one, hb, Nat.mul_mod_mod]
  unfold rootR
  rw [← hr]
  split
  · rename_i h; exact h
  · rename_i h
    rcases hb1 with q | q
    · rw [q, Nat.mul_one] at hr2; exact absurd hr2 h
    · rw [← Nat.mul_mod, show r * rootI * (r * rootI) = r * r * (rootI * rootI) by ac_rfl, Nat.mul_mod, hr2, rootI_sq, q, Nat.mod_mul_mod, Nat.mul_assoc, Nat.mul_mod, m1_sq, Nat.mul_one, Nat.mod_mod]
/-- A number is a square just if it is one to the power (p - 1) / 2, or 0. -/
theorem rootF_is (a : Nat) (ha : a < p25) : (rootF a).2 = isSq a := by
  have hpos := p25_pos
  have e : (rootF a).2 = decide (rootR a * rootR a % p25 = a) := by unfold rootF; split <;> simp [*]
  rw [e, Bool.eq_iff_iff, decide_eq_true_eq]
  simp only [isSq, Bool.or_eq_true, beq_iff_eq]
  rw [Nat.mod_eq_of_lt ha]
  constructor
  · intro h
    by_cases h0 : a = 0
    · exact .inl h0
    · right
      have hnd : ¬ p25 ∣ rootR a := fun q => h0 (by rw [← h, Nat.mul_mod, Nat.mod_eq_zero_of_dvd q, Nat.zero_mul, Nat.zero_mod])
      have hf := prm_p25.fermat1 hnd
      rw [pwm_eq _ _ _ _ (by decide +kernel), ← h, pow_mod_mod, ← Nat.pow_two, ← Nat.pow_mul, show 2 * ((p25 - 1) / 2) = p25 - 1 by decide]
      exact hf
  · rintro (h | h)
    · subst h; decide +kernel
    · -- a root by the same power
      rw [pwm_eq _ _ _ _ (by decide +kernel)] at h
      obtain ⟨b, hb⟩ : ∃ b, b = a ^ ((p25 - 1) / 4) % p25 := ⟨_, rfl⟩
      have hb2 : b * b % p25 = 1 := by
        rw [hb, ← Nat.mul_mod, ← Nat.pow_add, show (p25 - 1) / 4 + (p25 - 1) / 4 = (p25 - 1) / 2 by decide, h]
      have hb1 := one_sq (by rw [hb]; exact Nat.mod_lt _ hpos) hb2
      obtain ⟨r, hr⟩ : ∃ r, r = pwm p25 a 256 ((p25 + 3) / 8) := ⟨_, rfl⟩
      have hr2 : r * r % p25 = a * b % p25 := by
        rw [hr, pwm_eq _ _ _ _ (by decide +kernel), ← Nat.mul_mod, ← Nat.pow_add, show (p25 + 3) / 8 + (p25 + 3) / 8 = 1 + (p25 - 1) / 4 by decide, Nat.pow_add, Nat.pow_one, hb, Nat.mul_mod_mod]
      unfold rootR
      rw [← hr]
      split
      · rename_i h; exact h
      · rename_i h
        rcases hb1 with q | q
        · rw [q, Nat.mul_one, Nat.mod_eq_of_lt ha] at hr2; exact absurd hr2 h
        · rw [← Nat.mul_mod, show r * rootI * (r * rootI) = r * r * (rootI * rootI) by ac_rfl, Nat.mul_mod, hr2, rootI_sq, q, Nat.mod_mul_mod, Nat.mul_assoc, Nat.mul_mod, m1_sq, Nat.mul_one, Nat.mod_mod, Nat.mod_eq_of_lt ha]
theorem rootF_no {a : Nat} (h : (rootF a).2 = false) : (rootF a).1 = 0 := by
  unfold rootF at *; split at h
  · simp at h
  · rename_i q; rw [if_neg q]
theorem rootF_yes {a : Nat} (h : (rootF a).2 = true) : (rootF a).1 % 2 = 0 ∧ (rootF a).1 < p25 ∧ (rootF a).1 * (rootF a).1 % p25 = a := by
  have hl := rootR_lt a
  unfold rootF at *; split at h
  · rename_i q
    rw [if_pos q]
    simp only
    split
    · rename_i w
      refine ⟨?_, negP_lt _, by rw [negP_sq hl, q]⟩
      unfold negP
      rw [if_neg (by omega)]
      have : p25 % 2 = 1 := by decide
      omega
    · exact ⟨by omega, hl, q⟩
  · simp at h
theorem rootF_sq {x : Nat} (hx : x < p25) : (rootF (x * x % p25)).2 = true ∧ ((rootF (x * x % p25)).1 = x ∨ (rootF (x * x % p25)).1 = negP x) := by
  have h : (rootF (x * x % p25)).2 = true := by unfold rootF; rw [if_pos (rootR_sq hx)]
  obtain ⟨_, h2, h3⟩ := rootF_yes h
  exact ⟨h, sq_two h2 hx h3⟩
end Go.Fw

/-
  Words of sixty-four bits: what they come to.
-/
namespace Go.Fw
/-- What words come to. -/
def vb (g : Nat → Nat) : Nat → Nat
  | 0 => 0
  | n + 1 => vb g n + g n * 2 ^ (64 * n)
theorem vb_lt {g : Nat → Nat} : ∀ {m : Nat}, (∀ k, k < m → g k < 2 ^ 64) → vb g m < 2 ^ (64 * m)
  | 0, _ => by simp [vb]
  | m + 1, e => by
    have h1 := vb_lt (g := g) (m := m) (fun k hk => e k (by omega))
    have h2 := e m (by omega)
    rw [vb, Nat.mul_add, Nat.pow_add]
    have : g m * 2 ^ (64 * m) ≤ (2 ^ 64 - 1) * 2 ^ (64 * m) := Nat.mul_le_mul_right _ (by omega)
    omega
theorem wd_vb {g : Nat → Nat} : ∀ {m : Nat}, (∀ k, k < m → g k < 2 ^ 64) → ∀ k, k < m → wd (vb g m) k = g k
  | 0, _, k, hk => by omega
  | m + 1, e, k, hk => by
    have h1 := vb_lt (g := g) (m := m) (fun k hk => e k (by omega))
    have h2 := e m (by omega)
    have hp : 0 < 2 ^ (64 * m) := Nat.two_pow_pos _
    rw [vb]
    by_cases hkm : k = m
    · subst hkm
      rw [wd, Nat.add_mul_div_right _ _ hp, Nat.div_eq_of_lt h1, Nat.zero_add, Nat.mod_eq_of_lt h2]
    · have ih := wd_vb (m := m) (fun k hk => e k (by omega)) k (by omega)
      rw [← ih, wd, wd]
      have hq : 0 < 2 ^ (64 * k) := Nat.two_pow_pos _
      have : g m * 2 ^ (64 * m) = 2 ^ (64 * k) * (2 ^ 64 * (g m * 2 ^ (64 * (m - k - 1)))) := by
        rw [show 64 * m = 64 * k + 64 + 64 * (m - k - 1) by omega, Nat.pow_add, Nat.pow_add]
        ac_rfl
      rw [this, Nat.add_mul_div_left _ _ hq, Nat.add_mul_mod_self_left]
theorem vb_upd_out {g : Nat → Nat} {i v : Nat} : ∀ {m : Nat}, m ≤ i → vb (upd g i v) m = vb g m
  | 0, _ => rfl
  | m + 1, h => by rw [vb, vb, vb_upd_out (m := m) (by omega), upd, if_neg (by omega)]
theorem vb_upd {g : Nat → Nat} {i v : Nat} : ∀ {m : Nat}, i < m → vb (upd g i v) m + g i * 2 ^ (64 * i) = vb g m + v * 2 ^ (64 * i)
  | 0, h => by omega
  | m + 1, h => by
    by_cases hi : i = m
    · subst hi
      rw [vb, vb, vb_upd_out (Nat.le_refl _), upd, if_pos rfl]
      omega
    · have ih := vb_upd (g := g) (v := v) (m := m) (show i < m by omega)
      rw [vb, vb, show upd g i v m = g m from if_neg (by omega)]
      omega
theorem upd_lt {g : Nat → Nat} {i v M m : Nat} (h : ∀ k, k < m → g k < M) (hv : v < M) : ∀ k, k < m → upd g i v k < M := fun k hk => by
  unfold upd; split
  · exact hv
  · exact h k hk
theorem q4_vb {g : Nat → Nat} (h : ∀ k, k < 4 → g k < 2 ^ 64) : arr .u64 4 g = q4 (vb g 4) := by
  rw [q4_arr]; exact arr_ext fun k hk => (wd_vb h k hk).symm
theorem vb_split (g : Nat → Nat) (m : Nat) : ∀ n, vb g (m + n) = vb g m + 2 ^ (64 * m) * vb (fun k => g (m + k)) n
  | 0 => by simp [vb]
  | n + 1 => by
    rw [← Nat.add_assoc, vb, vb_split g m n, vb, Nat.mul_add, Nat.mul_add, Nat.pow_add]
    have : g (m + n) * (2 ^ (64 * m) * 2 ^ (64 * n)) = 2 ^ (64 * m) * (g (m + n) * 2 ^ (64 * n)) := by ac_rfl
    omega
/-- The product of two words, in parts. -/
theorem mul64_parts (x y : Nat) (hx : x < 2 ^ 64) (hy : y < 2 ^ 64) : x * y = (x % 2 ^ 32) * (y % 2 ^ 32) + 2 ^ 32 * ((x / 2 ^ 32) * (y % 2 ^ 32)) + 2 ^ 32 * ((x % 2 ^ 32) * (y / 2 ^ 32)) + 2 ^ 64 * ((x / 2 ^ 32) * (y / 2 ^ 32)) := by
  obtain ⟨a, b, ha, hb, rfl⟩ : ∃ a b, a < 2 ^ 32 ∧ b < 2 ^ 32 ∧ x = a + 2 ^ 32 * b := ⟨x % 2 ^ 32, x / 2 ^ 32, by omega, by omega, by omega⟩
  obtain ⟨c, d, hc, hd, rfl⟩ : ∃ c d, c < 2 ^ 32 ∧ d < 2 ^ 32 ∧ y = c + 2 ^ 32 * d := ⟨y % 2 ^ 32, y / 2 ^ 32, by omega, by omega, by omega⟩
  have e1 : (a + 2 ^ 32 * b) % 2 ^ 32 = a := by omega
  have e2 : (a + 2 ^ 32 * b) / 2 ^ 32 = b := by omega
  have e3 : (c + 2 ^ 32 * d) % 2 ^ 32 = c := by omega
  have e4 : (c + 2 ^ 32 * d) / 2 ^ 32 = d := by omega
  rw [e1, e2, e3, e4]
  rw [Nat.add_mul, Nat.mul_add, Nat.mul_add]
  have h1 : a * (2 ^ 32 * d) = 2 ^ 32 * (a * d) := by ac_rfl
  have h2 : 2 ^ 32 * b * c = 2 ^ 32 * (b * c) := by ac_rfl
  have h3 : 2 ^ 32 * b * (2 ^ 32 * d) = 2 ^ 64 * (b * d) := by rw [show (2 : Nat) ^ 64 = 2 ^ 32 * 2 ^ 32 from rfl]; ac_rfl
  omega
theorem mul32_lt {a b : Nat} (ha : a < 2 ^ 32) (hb : b < 2 ^ 32) : a * b ≤ 18446744065119617025 := by
  have := Nat.mul_le_mul (show a ≤ 4294967295 by omega) (show b ≤ 4294967295 by omega)
  omega
end Go.Fw

/-
  Digits of any width; numbers of seventeen digits of fifteen bits.
-/
namespace Go.Fw
/-- A digit of so many bits. -/
def dgw (w n k : Nat) : Nat := n / 2 ^ (w * k) % 2 ^ w
/-- A bit is set above all others. -/
theorem dgw_put {w m i k : Nat} (hw : 0 < w) (hm : m < 2 ^ i) : dgw w (m + 2 ^ i) k = if k = i / w then dgw w m k + 2 ^ (i % w) else dgw w m k := by
  have hdm := Nat.div_add_mod i w
  have hmw := Nat.mod_lt i hw
  obtain ⟨q, hq⟩ : ∃ q, q = i / w := ⟨_, rfl⟩
  obtain ⟨r, hr⟩ : ∃ r, r = i % w := ⟨_, rfl⟩
  rw [← hq, ← hr] at hdm
  rw [← hr] at hmw
  rw [← hq, ← hr]
  have hpk : 0 < 2 ^ (w * k) := Nat.two_pow_pos _
  unfold dgw
  split
  · rename_i h
    subst h
    have e : 2 ^ i = 2 ^ (w * k) * 2 ^ r := by rw [← Nat.pow_add, hdm]
    have h1 : m / 2 ^ (w * k) < 2 ^ r := by rw [Nat.div_lt_iff_lt_mul hpk, Nat.mul_comm, ← e]; exact hm
    have h2 : 2 ^ r * 2 ≤ 2 ^ w := by rw [← Nat.pow_succ]; exact Nat.pow_le_pow_right (by decide) hmw
    rw [e, Nat.add_mul_div_left _ _ hpk, Nat.mod_eq_of_lt (by omega), Nat.mod_eq_of_lt (by omega)]
  · rename_i h
    rcases Nat.lt_or_ge k q with h1 | h1
    · have h3 : w * k + w ≤ i := by
        have := Nat.mul_le_mul_left w (show k + 1 ≤ q by omega)
        rw [Nat.mul_add, Nat.mul_one] at this
        omega
      have e : 2 ^ i = 2 ^ (w * k) * (2 ^ w * 2 ^ (i - w * k - w)) := by rw [← Nat.pow_add, ← Nat.pow_add]; congr 1; omega
      rw [e, Nat.add_mul_div_left _ _ hpk, Nat.add_mul_mod_self_left]
    · have h3 : i + 1 ≤ w * k := by
        have := Nat.mul_le_mul_left w (show q + 1 ≤ k by omega)
        rw [Nat.mul_add, Nat.mul_one] at this
        omega
      have h4 : 2 ^ (i + 1) ≤ 2 ^ (w * k) := Nat.pow_le_pow_right (by decide) h3
      rw [Nat.pow_succ] at h4
      rw [Nat.div_eq_of_lt (show m < 2 ^ (w * k) by omega), Nat.div_eq_of_lt (show m + 2 ^ i < 2 ^ (w * k) by omega)]
theorem dig_dgw (n k : Nat) : dig n k = dgw 15 n k := by unfold dig dgw; rw [Nat.pow_mul]
theorem byt_dgw (n k : Nat) : byt n k = dgw 8 n k := by unfold byt dgw; rw [Nat.pow_mul]
theorem dig_put {m i : Nat} (hm : m < 2 ^ i) : upd (dig m) (i / 15) (dig m (i / 15) + 2 ^ (i % 15)) = dig (m + 2 ^ i) := by
  funext k
  unfold upd
  rw [dig_dgw (m + 2 ^ i), dgw_put (by decide) hm]
  split
  · rename_i h; rw [h, dig_dgw]
  · rw [dig_dgw]
theorem byt_put {m i : Nat} (hm : m < 2 ^ i) : upd (byt m) (i / 8) (byt m (i / 8) + 2 ^ (i % 8)) = byt (m + 2 ^ i) := by
  funext k
  unfold upd
  rw [byt_dgw (m + 2 ^ i), dgw_put (by decide) hm]
  split
  · rename_i h; rw [h, byt_dgw]
  · rw [byt_dgw]
theorem mod_bit (n i : Nat) : n % 2 ^ (i + 1) = n % 2 ^ i + (n / 2 ^ i % 2) * 2 ^ i := by
  rw [Nat.pow_succ, Nat.mod_mul, Nat.mul_comm (2 ^ i)]
/-- A number as seventeen digits. -/
def q17 (n : Nat) : List AV := arr .i64 17 (dig n)
@[simp] theorem q17_length (n : Nat) : (q17 n).length = 17 := by simp [q17]
@[simp] theorem cleanL_q17 (n : Nat) : cleanL (q17 n) = true := cleanL_arr _ _ _
@[simp] theorem ltL_q17 (m n : Nat) : ltL m (q17 n) = true := ltL_arr _ _ _ _
@[simp] theorem idsL_q17 (q : Nat → Bool) (n : Nat) : idsL q (q17 n) = true := idsL_arr _ _ _ _
@[simp] theorem subL_q17 (s : Nat → Nat → Nat → Nat → Option Nat → AV) (p : Nat → Nat → AV) (n : Nat) : subL s p (q17 n) = q17 n := subL_arr _ _ _ _ _
@[simp] theorem take17_q17 (n : Nat) : (q17 n).take 17 = q17 n := List.take_of_length_le (by simp)
theorem q17_vs {g : Nat → Nat} (h : ∀ k, k < 17 → g k < 32768) : arr .i64 17 g = q17 (vs g 17) := arr_ext fun k hk => (dig_vs h k hk).symm
theorem two255 : (2 : Nat) ^ 255 = 32768 ^ 17 := by decide
theorem vs17 {n : Nat} (h : n < 2 ^ 255) : vs (dig n) 17 = n := by rw [vs_dig, ← two255, Nat.mod_eq_of_lt h]
theorem vs17_lt {g : Nat → Nat} (h : ∀ k, k < 17 → g k < 32768) : vs g 17 < 2 ^ 255 := by rw [two255]; exact vs_lt h
theorem q17_inj {m n : Nat} (hm : m < 2 ^ 255) (hn : n < 2 ^ 255) (h : q17 m = q17 n) : m = n := by
  rw [← vs17 hm, ← vs17 hn]; exact vs_ext (arr_inj h)
theorem ints_q17 {m n : Nat} (hm : m < 2 ^ 255) (hn : n < 2 ^ 255) : (ints (q17 m) = ints (q17 n)) = (m = n) := by
  apply propext
  constructor
  · intro h
    refine q17_inj hm hn ?_
    unfold q17 at *
    rw [ints_arr, ints_arr] at h
    refine arr_ext fun k hk => ?_
    have := congrArg (fun l => l[k]?) h
    have h2 : ((dig m k : Nat) : Int) = (dig n k : Nat) := by simpa [hk] using this
    omega
  · rintro rfl; rfl
theorem hasK_q17 (n : Nat) : hasK (List.replicate 17 .i64) (q17 n) = true := hasK_arr _ _ _
theorem z17 : [AV.int .i64 0, AV.int .i64 0, AV.int .i64 0, AV.int .i64 0, AV.int .i64 0, AV.int .i64 0, AV.int .i64 0, AV.int .i64 0, AV.int .i64 0, AV.int .i64 0, AV.int .i64 0, AV.int .i64 0, AV.int .i64 0, AV.int .i64 0, AV.int .i64 0, AV.int .i64 0, AV.int .i64 0] = arr .i64 17 fun _ => 0 := by kernel_rfl
theorem z34 : AV.int .i64 0 :: AV.int .i64 0 :: AV.int .i64 0 :: AV.int .i64 0 :: AV.int .i64 0 :: AV.int .i64 0 :: AV.int .i64 0 :: AV.int .i64 0 :: AV.int .i64 0 :: AV.int .i64 0 :: AV.int .i64 0 :: AV.int .i64 0 :: AV.int .i64 0 :: AV.int .i64 0 :: AV.int .i64 0 :: AV.int .i64 0 :: AV.int .i64 0 :: arr .i64 17 (fun _ => 0) = arr .i64 34 fun _ => 0 := by kernel_rfl
theorem q17_zero : q17 0 = arr .i64 17 fun _ => 0 := arr_ext fun k _ => by simp [dig]
theorem mod19 (a c : Nat) : (a + 2 ^ 255 * c) % p25 = (a + 19 * c) % p25 := by
  rw [show (2 : Nat) ^ 255 = 19 + p25 from rfl, Nat.add_mul, ← Nat.add_assoc, Nat.add_mul_mod_self_left]
end Go.Fw
