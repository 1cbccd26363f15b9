/-
  Digits of any width; numbers of seventeen digits of fifteen bits.
-/
import Derived.Test.YthgibibeoapfbaaF2
set_option linter.unusedSimpArgs false
set_option linter.unnecessarySimpa false
set_option linter.unusedVariables false
set_option linter.unusedSectionVars false
namespace Go.Fw
/-- A digit of so many bits. -/
def dgw (w n k : Nat) : Nat := n / 2 ^ (w * k) % 2 ^ w
/-- A bit is set above all others. -/
theorem dgw_put {w m i k : Nat} (hw : 0 < w) (hm : m < 2 ^ i) : dgw w (m + 2 ^ i) k = if k = i / w then dgw w m k + 2 ^ (i % w) else dgw w m k := by
  have hdm := Nat.div_add_mod i w
  have hmw := Nat.mod_lt i hw
  obtain ⟨q, hq⟩ : ∃ q, q = i / w := ⟨_, rfl⟩
  obtain ⟨r, hr⟩ : ∃ r, r = i % w := ⟨_, rfl⟩
  rw [← hq, ← hr] at hdm
  rw [← hr] at hmw
  rw [← hq, ← hr]
  have hpk : 0 < 2 ^ (w * k) := Nat.two_pow_pos _
  unfold dgw
  split
  · rename_i h
    subst h
    have e : 2 ^ i = 2 ^ (w * k) * 2 ^ r := by rw [← Nat.pow_add, hdm]
    have h1 : m / 2 ^ (w * k) < 2 ^ r := by rw [Nat.div_lt_iff_lt_mul hpk, Nat.mul_comm, ← e]; exact hm
    have h2 : 2 ^ r * 2 ≤ 2 ^ w := by rw [← Nat.pow_succ]; exact Nat.pow_le_pow_right (by decide) hmw
    rw [e, Nat.add_mul_div_left _ _ hpk, Nat.mod_eq_of_lt (by omega), Nat.mod_eq_of_lt (by omega)]
  · rename_i h
    rcases Nat.lt_or_ge k q with h1 | h1
    · have h3 : w * k + w ≤ i := by
        have := Nat.mul_le_mul_left w (show k + 1 ≤ q by omega)
        rw [Nat.mul_add, Nat.mul_one] at this
        omega
      have e : 2 ^ i = 2 ^ (w * k) * (2 ^ w * 2 ^ (i - w * k - w)) := by rw [← Nat.pow_add, ← Nat.pow_add]; congr 1; omega
      rw [e, Nat.add_mul_div_left _ _ hpk, Nat.add_mul_mod_self_left]
    · have h3 : i + 1 ≤ w * k := by
        have := Nat.mul_le_mul_left w (show q + 1 ≤ k by omega)
        rw [Nat.mul_add, Nat.mul_one] at this
        omega
      have h4 : 2 ^ (i + 1) ≤ 2 ^ (w * k) := Nat.pow_le_pow_right (by decide) h3
      rw [Nat.pow_succ] at h4
      rw [Nat.div_eq_of_lt (show m < 2 ^ (w * k) by omega), Nat.div_eq_of_lt (show m + 2 ^ i < 2 ^ (w * k) by omega)]
theorem dig_dgw (n k : Nat) : dig n k = dgw 15 n k := by unfold dig dgw; rw [Nat.pow_mul]
theorem byt_dgw (n k : Nat) : byt n k = dgw 8 n k := by unfold byt dgw; rw [Nat.pow_mul]
theorem dig_put {m i : Nat} (hm : m < 2 ^ i) : upd (dig m) (i / 15) (dig m (i / 15) + 2 ^ (i % 15)) = dig (m + 2 ^ i) := by
  funext k
  unfold upd
  rw [dig_dgw (m + 2 ^ i), dgw_put (by decide) hm]
  split
  · rename_i h; rw [h, dig_dgw]
  · rw [dig_dgw]
theorem byt_put {m i : Nat} (hm : m < 2 ^ i) : upd (byt m) (i / 8) (byt m (i / 8) + 2 ^ (i % 8)) = byt (m + 2 ^ i) := by
  funext k
  unfold upd
  rw [byt_dgw (m + 2 ^ i), dgw_put (by decide) hm]
  split
  · rename_i h; rw [h, byt_dgw]
  · rw [byt_dgw]
theorem mod_bit (n i : Nat) : n % 2 ^ (i + 1) = n % 2 ^ i + (n / 2 ^ i % 2) * 2 ^ i := by
  rw [Nat.pow_succ, Nat.mod_mul, Nat.mul_comm (2 ^ i)]
/-- A number as seventeen digits. -/
def q17 (n : Nat) : List AV := arr .i64 17 (dig n)
@[simp] theorem q17_length (n : Nat) : (q17 n).length = 17 := by simp [q17]
@[simp] theorem cleanL_q17 (n : Nat) : cleanL (q17 n) = true := cleanL_arr _ _ _
@[simp] theorem ltL_q17 (m n : Nat) : ltL m (q17 n) = true := ltL_arr _ _ _ _
@[simp] theorem idsL_q17 (q : Nat → Bool) (n : Nat) : idsL q (q17 n) = true := idsL_arr _ _ _ _
@[simp] theorem subL_q17 (s : Nat → Nat → Nat → Nat → Option Nat → AV) (p : Nat → Nat → AV) (n : Nat) : subL s p (q17 n) = q17 n := subL_arr _ _ _ _ _
@[simp] theorem take17_q17 (n : Nat) : (q17 n).take 17 = q17 n := List.take_of_length_le (by simp)
theorem q17_vs {g : Nat → Nat} (h : ∀ k, k < 17 → g k < 32768) : arr .i64 17 g = q17 (vs g 17) := arr_ext fun k hk => (dig_vs h k hk).symm
theorem two255 : (2 : Nat) ^ 255 = 32768 ^ 17 := by decide
theorem vs17 {n : Nat} (h : n < 2 ^ 255) : vs (dig n) 17 = n := by rw [vs_dig, ← two255, Nat.mod_eq_of_lt h]
theorem vs17_lt {g : Nat → Nat} (h : ∀ k, k < 17 → g k < 32768) : vs g 17 < 2 ^ 255 := by rw [two255]; exact vs_lt h
theorem q17_inj {m n : Nat} (hm : m < 2 ^ 255) (hn : n < 2 ^ 255) (h : q17 m = q17 n) : m = n := by
  rw [← vs17 hm, ← vs17 hn]; exact vs_ext (arr_inj h)
theorem ints_q17 {m n : Nat} (hm : m < 2 ^ 255) (hn : n < 2 ^ 255) : (ints (q17 m) = ints (q17 n)) = (m = n) := by
  apply propext
  constructor
  · intro h
    refine q17_inj hm hn ?_
    unfold q17 at *
    rw [ints_arr, ints_arr] at h
    refine arr_ext fun k hk => ?_
    have := congrArg (fun l => l[k]?) h
    have h2 : ((dig m k : Nat) : Int) = (dig n k : Nat) := by simpa [hk] using this
    omega
  · rintro rfl; rfl
theorem hasK_q17 (n : Nat) : hasK (List.replicate 17 .i64) (q17 n) = true := hasK_arr _ _ _
theorem z17 : [AV.int .i64 0, AV.int .i64 0, AV.int .i64 0, AV.int .i64 0, AV.int .i64 0, AV.int .i64 0, AV.int .i64 0, AV.int .i64 0, AV.int .i64 0, AV.int .i64 0, AV.int .i64 0, AV.int .i64 0, AV.int .i64 0, AV.int .i64 0, AV.int .i64 0, AV.int .i64 0, AV.int .i64 0] = arr .i64 17 fun _ => 0 := by kernel_rfl
theorem z34 : AV.int .i64 0 :: AV.int .i64 0 :: AV.int .i64 0 :: AV.int .i64 0 :: AV.int .i64 0 :: AV.int .i64 0 :: AV.int .i64 0 :: AV.int .i64 0 :: AV.int .i64 0 :: AV.int .i64 0 :: AV.int .i64 0 :: AV.int .i64 0 :: AV.int .i64 0 :: AV.int .i64 0 :: AV.int .i64 0 :: AV.int .i64 0 :: AV.int .i64 0 :: arr .i64 17 (fun _ => 0) = arr .i64 34 fun _ => 0 := by kernel_rfl
theorem q17_zero : q17 0 = arr .i64 17 fun _ => 0 := arr_ext fun k _ => by simp [dig]
theorem mod19 (a c : Nat) : (a + 2 ^ 255 * c) % p25 = (a + 19 * c) % p25 := by
  rw [show (2 : Nat) ^ 255 = 19 + p25 from rfl, Nat.add_mul, ← Nat.add_assoc, Nat.add_mul_mod_self_left]
end Go.Fw
