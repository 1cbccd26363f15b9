/-
  Words of sixty-four bits: what they come to.
-/
import Derived.Test.YthgibibeoapfbaaRT
set_option linter.unusedSimpArgs false
set_option linter.unnecessarySimpa false
set_option linter.unusedVariables false
set_option linter.unusedSectionVars false
namespace Go.Fw
/-- What words come to. -/
def vb (g : Nat → Nat) : Nat → Nat
  | 0 => 0
  | n + 1 => vb g n + g n * 2 ^ (64 * n)
theorem vb_lt {g : Nat → Nat} : ∀ {m : Nat}, (∀ k, k < m → g k < 2 ^ 64) → vb g m < 2 ^ (64 * m)
  | 0, _ => by simp [vb]
  | m + 1, e => by
    have h1 := vb_lt (g := g) (m := m) (fun k hk => e k (by omega))
    have h2 := e m (by omega)
    rw [vb, Nat.mul_add, Nat.pow_add]
    have : g m * 2 ^ (64 * m) ≤ (2 ^ 64 - 1) * 2 ^ (64 * m) := Nat.mul_le_mul_right _ (by omega)
    omega
theorem wd_vb {g : Nat → Nat} : ∀ {m : Nat}, (∀ k, k < m → g k < 2 ^ 64) → ∀ k, k < m → wd (vb g m) k = g k
  | 0, _, k, hk => by omega
  | m + 1, e, k, hk => by
    have h1 := vb_lt (g := g) (m := m) (fun k hk => e k (by omega))
    have h2 := e m (by omega)
    have hp : 0 < 2 ^ (64 * m) := Nat.two_pow_pos _
    rw [vb]
    by_cases hkm : k = m
    · subst hkm
      rw [wd, Nat.add_mul_div_right _ _ hp, Nat.div_eq_of_lt h1, Nat.zero_add, Nat.mod_eq_of_lt h2]
    · have ih := wd_vb (m := m) (fun k hk => e k (by omega)) k (by omega)
      rw [← ih, wd, wd]
      have hq : 0 < 2 ^ (64 * k) := Nat.two_pow_pos _
      have : g m * 2 ^ (64 * m) = 2 ^ (64 * k) * (2 ^ 64 * (g m * 2 ^ (64 * (m - k - 1)))) := by
        rw [show 64 * m = 64 * k + 64 + 64 * (m - k - 1) by omega, Nat.pow_add, Nat.pow_add]
        ac_rfl
      rw [this, Nat.add_mul_div_left _ _ hq, Nat.add_mul_mod_self_left]
theorem vb_upd_out {g : Nat → Nat} {i v : Nat} : ∀ {m : Nat}, m ≤ i → vb (upd g i v) m = vb g m
  | 0, _ => rfl
  | m + 1, h => by rw [vb, vb, vb_upd_out (m := m) (by omega), upd, if_neg (by omega)]
theorem vb_upd {g : Nat → Nat} {i v : Nat} : ∀ {m : Nat}, i < m → vb (upd g i v) m + g i * 2 ^ (64 * i) = vb g m + v * 2 ^ (64 * i)
  | 0, h => by omega
  | m + 1, h => by
    by_cases hi : i = m
    · subst hi
      rw [vb, vb, vb_upd_out (Nat.le_refl _), upd, if_pos rfl]
      omega
    · have ih := vb_upd (g := g) (v := v) (m := m) (show i < m by omega)
      rw [vb, vb, show upd g i v m = g m from if_neg (by omega)]
      omega
theorem upd_lt {g : Nat → Nat} {i v M m : Nat} (h : ∀ k, k < m → g k < M) (hv : v < M) : ∀ k, k < m → upd g i v k < M := fun k hk => by
  unfold upd; split
  · exact hv
  · exact h k hk
theorem q4_vb {g : Nat → Nat} (h : ∀ k, k < 4 → g k < 2 ^ 64) : arr .u64 4 g = q4 (vb g 4) := by
  rw [q4_arr]; exact arr_ext fun k hk => (wd_vb h k hk).symm
theorem vb_split (g : Nat → Nat) (m : Nat) : ∀ n, vb g (m + n) = vb g m + 2 ^ (64 * m) * vb (fun k => g (m + k)) n
  | 0 => by simp [vb]
  | n + 1 => by
    rw [← Nat.add_assoc, vb, vb_split g m n, vb, Nat.mul_add, Nat.mul_add, Nat.pow_add]
    have : g (m + n) * (2 ^ (64 * m) * 2 ^ (64 * n)) = 2 ^ (64 * m) * (g (m + n) * 2 ^ (64 * n)) := by ac_rfl
    omega
/-- The product of two words, in parts. -/
theorem mul64_parts (x y : Nat) (hx : x < 2 ^ 64) (hy : y < 2 ^ 64) : x * y = (x % 2 ^ 32) * (y % 2 ^ 32) + 2 ^ 32 * ((x / 2 ^ 32) * (y % 2 ^ 32)) + 2 ^ 32 * ((x % 2 ^ 32) * (y / 2 ^ 32)) + 2 ^ 64 * ((x / 2 ^ 32) * (y / 2 ^ 32)) := by
  obtain ⟨a, b, ha, hb, rfl⟩ : ∃ a b, a < 2 ^ 32 ∧ b < 2 ^ 32 ∧ x = a + 2 ^ 32 * b := ⟨x % 2 ^ 32, x / 2 ^ 32, by omega, by omega, by omega⟩
  obtain ⟨c, d, hc, hd, rfl⟩ : ∃ c d, c < 2 ^ 32 ∧ d < 2 ^ 32 ∧ y = c + 2 ^ 32 * d := ⟨y % 2 ^ 32, y / 2 ^ 32, by omega, by omega, by omega⟩
  have e1 : (a + 2 ^ 32 * b) % 2 ^ 32 = a := by omega
  have e2 : (a + 2 ^ 32 * b) / 2 ^ 32 = b := by omega
  have e3 : (c + 2 ^ 32 * d) % 2 ^ 32 = c := by omega
  have e4 : (c + 2 ^ 32 * d) / 2 ^ 32 = d := by omega
  rw [e1, e2, e3, e4]
  rw [Nat.add_mul, Nat.mul_add, Nat.mul_add]
  have h1 : a * (2 ^ 32 * d) = 2 ^ 32 * (a * d) := by ac_rfl
  have h2 : 2 ^ 32 * b * c = 2 ^ 32 * (b * c) := by ac_rfl
  have h3 : 2 ^ 32 * b * (2 ^ 32 * d) = 2 ^ 64 * (b * d) := by rw [show (2 : Nat) ^ 64 = 2 ^ 32 * 2 ^ 32 from rfl]; ac_rfl
  omega
theorem mul32_lt {a b : Nat} (ha : a < 2 ^ 32) (hb : b < 2 ^ 32) : a * b ≤ 18446744065119617025 := by
  have := Nat.mul_le_mul (show a ≤ 4294967295 by omega) (show b ≤ 4294967295 by omega)
  omega
end Go.Fw
