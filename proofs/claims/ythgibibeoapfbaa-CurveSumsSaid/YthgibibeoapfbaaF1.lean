/-
  Numbers as digits of fifteen bits; powers modulo a number.
-/
import Derived.Test.YthgibibeoapfbaaN2
set_option linter.unusedSimpArgs false
set_option linter.unnecessarySimpa false
set_option linter.unusedVariables false
set_option linter.unusedSectionVars false
namespace Go.Fw
/-- A digit of fifteen bits. -/
def dig (n k : Nat) : Nat := n / 32768 ^ k % 32768
/-- What digits come to. -/
def vs (g : Nat → Nat) : Nat → Nat
  | 0 => 0
  | n + 1 => vs g n + g n * 32768 ^ n
theorem dig_lt (n k : Nat) : dig n k < 32768 := Nat.mod_lt _ (by decide)
theorem vs_dig (n : Nat) : ∀ m, vs (dig n) m = n % 32768 ^ m
  | 0 => by simp [vs, Nat.mod_one]
  | m + 1 => by
    rw [vs, vs_dig n m, dig, Nat.pow_succ, Nat.mod_mul, Nat.mul_comm]
theorem vs_ext {g h : Nat → Nat} : ∀ {m : Nat}, (∀ k, k < m → g k = h k) → vs g m = vs h m
  | 0, _ => rfl
  | m + 1, e => by rw [vs, vs, vs_ext (m := m) (fun k hk => e k (by omega)), e m (by omega)]
theorem vs_lt {g : Nat → Nat} : ∀ {m : Nat}, (∀ k, k < m → g k < 32768) → vs g m < 32768 ^ m
  | 0, _ => by simp [vs]
  | m + 1, e => by
    have h1 := vs_lt (g := g) (m := m) (fun k hk => e k (by omega))
    have h2 := e m (by omega)
    rw [vs, Nat.pow_succ]
    have : g m * 32768 ^ m ≤ 32767 * 32768 ^ m := Nat.mul_le_mul_right _ (by omega)
    omega
/-- The digits of what digits come to. -/
theorem dig_vs {g : Nat → Nat} : ∀ {m : Nat}, (∀ k, k < m → g k < 32768) → ∀ k, k < m → dig (vs g m) k = g k
  | 0, _, k, hk => by omega
  | m + 1, e, k, hk => by
    have h1 := vs_lt (g := g) (m := m) (fun k hk => e k (by omega))
    have h2 := e m (by omega)
    have hp : 0 < 32768 ^ m := Nat.pow_pos (by decide)
    rw [vs]
    by_cases hkm : k = m
    · subst hkm
      rw [dig, Nat.add_mul_div_right _ _ hp, Nat.div_eq_of_lt h1, Nat.zero_add, Nat.mod_eq_of_lt h2]
    · have ih := dig_vs (m := m) (fun k hk => e k (by omega)) k (by omega)
      rw [← ih, dig, dig]
      have hq : (0 : Nat) < 32768 ^ k := Nat.pow_pos (by decide)
      have : g m * 32768 ^ m = 32768 ^ k * (32768 * (g m * 32768 ^ (m - k - 1))) := by
        rw [show m = k + 1 + (m - k - 1) by omega, Nat.pow_add, Nat.pow_add, show k + 1 + (m - k - 1) - k - 1 = m - k - 1 by omega]
        simp only [Nat.pow_one]
        ac_rfl
      rw [this, Nat.add_mul_div_left _ _ hq, Nat.add_mul_mod_self_left]
theorem vs_upd {g : Nat → Nat} {i v : Nat} : ∀ {m : Nat}, m ≤ i → vs (upd g i v) m = vs g m
  | 0, _ => rfl
  | m + 1, h => by rw [vs, vs, vs_upd (m := m) (by omega), upd, if_neg (by omega)]
/-- A digit becomes more. -/
theorem vs_upd_add {g : Nat → Nat} {i v : Nat} : ∀ {m : Nat}, i < m → vs (upd g i (g i + v)) m = vs g m + v * 32768 ^ i
  | 0, h => by omega
  | m + 1, h => by
    by_cases hi : i = m
    · subst hi
      rw [vs, vs, vs_upd (Nat.le_refl _), upd, if_pos rfl, Nat.add_mul]
      omega
    · rw [vs, vs, vs_upd_add (m := m) (by omega), upd, if_neg (by omega)]
      omega
theorem vs_add (g h : Nat → Nat) : ∀ m, vs (fun k => g k + h k) m = vs g m + vs h m
  | 0 => rfl
  | m + 1 => by simp only [vs, vs_add g h m, Nat.add_mul]; omega
theorem vs_mul (g : Nat → Nat) (c : Nat) : ∀ m, vs (fun k => c * g k) m = c * vs g m
  | 0 => rfl
  | m + 1 => by simp only [vs, vs_mul g c m, Nat.mul_add, Nat.mul_assoc]
theorem vs_split (g : Nat → Nat) (m : Nat) : ∀ n, vs g (m + n) = vs g m + 32768 ^ m * vs (fun k => g (m + k)) n
  | 0 => by simp [vs]
  | n + 1 => by
    rw [← Nat.add_assoc, vs, vs_split g m n, vs, Nat.mul_add, Nat.pow_add]
    have : g (m + n) * (32768 ^ m * 32768 ^ n) = 32768 ^ m * (g (m + n) * 32768 ^ n) := by ac_rfl
    omega
theorem dig_split (n k : Nat) : n / 32768 ^ k = dig n k + 32768 * (n / 32768 ^ (k + 1)) := by
  rw [dig, Nat.pow_succ, ← Nat.div_div_eq_div_mul]
  omega
theorem dig_cmp {a b k : Nat} (h : a / 32768 ^ (k + 1) = b / 32768 ^ (k + 1)) (hn : dig a k ≠ dig b k) : (a < b) = (dig a k < dig b k) := by
  have ha := dig_split a k; have hb := dig_split b k
  rw [lt_div (m := 32768 ^ k) (by rw [ha, hb, h]; omega), ha, hb, h]
  simp
theorem dig_eq {a b k : Nat} (h : a / 32768 ^ (k + 1) = b / 32768 ^ (k + 1)) (hn : dig a k = dig b k) : a / 32768 ^ k = b / 32768 ^ k := by
  rw [dig_split a k, dig_split b k, h, hn]
theorem dig_bit (n i : Nat) : dig n (i / 15) / 2 ^ (i % 15) % 2 = n / 2 ^ i % 2 := by
  have h1 : (32768 : Nat) ^ (i / 15) = 2 ^ (15 * (i / 15)) := by rw [Nat.pow_mul]
  have h2 : (32768 : Nat) = 2 ^ (i % 15) * 2 ^ (15 - i % 15) := by rw [← Nat.pow_add, show i % 15 + (15 - i % 15) = 15 by omega]
  have h3 : (2 : Nat) ^ (15 - i % 15) = 2 * 2 ^ (14 - i % 15) := by rw [show 15 - i % 15 = 1 + (14 - i % 15) by omega, Nat.pow_add]
  rw [dig, h1, h2, Nat.mod_mul_right_div_self, Nat.div_div_eq_div_mul, ← Nat.pow_add, show 15 * (i / 15) + i % 15 = i by omega, h3, Nat.mod_mul_right_mod]
/-- A number to a power, modulo another one; 'f' bits of the power at most. -/
def pwm (p a : Nat) : Nat → Nat → Nat
  | 0, _ => 1 % p
  | f + 1, e => if e % 2 = 1 then a * pwm p (a * a % p) f (e / 2) % p else pwm p (a * a % p) f (e / 2)
theorem pow_mod_mod (a p e : Nat) : (a % p) ^ e % p = a ^ e % p := by
  induction e with
  | zero => rfl
  | succ e ih => rw [Nat.pow_succ, Nat.pow_succ, Nat.mul_mod, ih, Nat.mod_mod, ← Nat.mul_mod]
theorem pwm_eq (p : Nat) : ∀ (f a e : Nat), e < 2 ^ f → pwm p a f e = a ^ e % p
  | 0, a, e, h => by rw [show e = 0 by simpa using h]; rfl
  | f + 1, a, e, h => by
    have ih := pwm_eq p f (a * a % p) (e / 2) (by rw [Nat.pow_succ] at h; omega)
    have e2 : (a * a) ^ (e / 2) = a ^ (2 * (e / 2)) := by rw [Nat.pow_mul, Nat.pow_two]
    rw [pow_mod_mod, e2] at ih
    rw [pwm, ih]
    split
    · rw [Nat.mul_mod_mod, Nat.mul_comm a, ← Nat.pow_succ, show (2 * (e / 2)).succ = e by omega]
    · rw [show 2 * (e / 2) = e by omega]
end Go.Fw
