/-
  Points as bytes.
-/
import Derived.Test.YthgibibeoapfbaaE4
import Derived.Test.YthgibibeoapfbaaN2
set_option linter.unusedSimpArgs false
set_option linter.unnecessarySimpa false
set_option linter.unusedVariables false
set_option linter.unusedSectionVars false
namespace Go.Fw
/-- The bytes of two numbers: the second, and whether the first is odd. -/
def enc32 (x y : Fp) : List UInt8 := byL 32 (fv y + 2 ^ 255 * (fv x % 2))
theorem byL_add_top {n : Nat} (h : n < 2 ^ 255) : (byL 32 n).set 31 (UInt8.ofNat (n / 256 ^ 31 + 128)) = byL 32 (n + 2 ^ 255) := by
  have e1 : byL 31 (n + 2 ^ 255) = byL 31 n := by
    refine List.ext_getElem? fun i => ?_
    by_cases hi : i < 31
    · rw [byL_get hi, byL_get hi]
      congr 1
      have e : (2 : Nat) ^ 255 = 256 ^ i * (256 * (2 ^ 247 / 256 ^ i)) := by
        obtain ⟨k, hk⟩ : ∃ k, 30 = i + k := ⟨30 - i, by omega⟩
        have a1 : (2 : Nat) ^ 247 = 256 ^ i * (256 ^ k * 2 ^ 7) := by rw [← Nat.mul_assoc, ← Nat.pow_add, ← hk]
        rw [a1, Nat.mul_div_cancel_left _ (Nat.pow_pos (by decide))]
        rw [show (2 : Nat) ^ 255 = 256 * 2 ^ 247 from rfl, a1, Nat.mul_left_comm]
      rw [e, Nat.add_mul_div_left _ _ (Nat.pow_pos (by decide))]
      apply UInt8.toNat_inj.1
      rw [UInt8.toNat_ofNat', UInt8.toNat_ofNat']
      omega
    · rw [List.getElem?_eq_none (by rw [byL_len]; omega), List.getElem?_eq_none (by rw [byL_len]; omega)]
  rw [byL_succ 31 n, byL_succ 31 (n + 2 ^ 255), e1, List.set_append_right _ _ (by rw [byL_len]; exact Nat.le_refl _), byL_len]
  congr 1
  rw [show (n + 2 ^ 255) / 256 ^ 31 = n / 256 ^ 31 + 128 by rw [show (2 : Nat) ^ 255 = 256 ^ 31 * 128 by decide, Nat.add_mul_div_left _ _ (Nat.pow_pos (by decide))]]
  rfl
theorem byL_top (n : Nat) : (byL 32 n)[31]? = some (UInt8.ofNat (n / 256 ^ 31)) := byL_get (by decide)
theorem top_lt {n : Nat} (h : n < 2 ^ 255) : n / 256 ^ 31 < 128 := Nat.div_lt_of_lt_mul h
theorem or128_top {m : Nat} (h : m < 128) : bitI .or .u8 ((UInt8.ofNat m).toNat : Int) 128 = ((UInt8.ofNat (m + 128)).toNat : Int) := by
  have e1 : (UInt8.ofNat m).toNat = m := by rw [UInt8.toNat_ofNat']; omega
  have e2 : (UInt8.ofNat (m + 128)).toNat = m + 128 := by rw [UInt8.toNat_ofNat']; omega
  rw [e1, e2, show ((128 : Int)) = ((128 : Nat) : Int) from rfl, bitI_or rfl (show m < 2 ^ 8 by omega) (show 128 < 2 ^ 8 by decide)]
  congr 1
  have := or_shl m 1 7 (by omega)
  rw [show (1 : Nat) * 2 ^ 7 = 128 from rfl] at this
  exact this
/-- The bytes of a number below 2^256, without the highest bit, and that. -/
theorem byN_top {l : List UInt8} (hl : l.length = 32) : ∃ b, l[31]? = some b ∧ b.toNat / 128 = byN l / 2 ^ 255 ∧ byN (l.set 31 (UInt8.ofNat (b.toNat % 128))) = byN l % 2 ^ 255 := by
  have hb : l[31]? = some (l[31]'(by omega)) := List.getElem?_eq_getElem (by omega)
  obtain ⟨b, hbe⟩ : ∃ b, b = l[31]'(by omega) := ⟨_, rfl⟩
  rw [← hbe] at hb
  have h1 : l = l.take 31 ++ [b] := by
    have e1 : l.take 32 = l := List.take_of_length_le (by omega)
    rw [List.take_succ_eq_append_getElem (by omega : 31 < l.length)] at e1
    rw [hbe]; exact e1.symm
  have happ : ∀ (a : List UInt8) (c : UInt8), byN (a ++ [c]) = byN a + 256 ^ a.length * c.toNat := by
    intro a c
    induction a with
    | nil => simp [byN]
    | cons x a ih => simp only [List.cons_append, byN, ih, List.length_cons, Nat.pow_succ]; rw [Nat.mul_add, ← Nat.mul_assoc, Nat.mul_comm 256 (256 ^ a.length)]; omega
  have hlen : (l.take 31).length = 31 := by rw [List.length_take]; omega
  have hlt := byN_lt (l.take 31)
  rw [hlen] at hlt
  have hbl := b.toNat_lt
  have hN : byN l = byN (l.take 31) + 256 ^ 31 * b.toNat := by
    conv => lhs; rw [h1]
    rw [happ, hlen]
  have hset : l.set 31 (UInt8.ofNat (b.toNat % 128)) = l.take 31 ++ [UInt8.ofNat (b.toNat % 128)] := by
    conv => lhs; rw [h1]
    rw [List.set_append_right _ _ (by omega), hlen]
    rfl
  have hu : (UInt8.ofNat (b.toNat % 128)).toNat = b.toNat % 128 := by rw [UInt8.toNat_ofNat']; omega
  refine ⟨b, hb, ?_, ?_⟩
  · rw [hN]
    have e : (2 : Nat) ^ 255 = 256 ^ 31 * 128 := by decide
    rw [e, ← Nat.div_div_eq_div_mul, Nat.add_mul_div_left _ _ (Nat.pow_pos (by decide)), Nat.div_eq_of_lt hlt, Nat.zero_add]
  · rw [hset, happ, hlen, hu, hN]
    have e : (2 : Nat) ^ 255 = 256 ^ 31 * 128 := by decide
    generalize (256 : Nat) ^ 31 = T at *
    generalize byN (l.take 31) = B at *
    rw [e]
    obtain ⟨q, r, hq, hr⟩ : ∃ q r, b.toNat = 128 * q + r ∧ r < 128 := ⟨b.toNat / 128, b.toNat % 128, by omega, by omega⟩
    rw [hq, show (128 * q + r) % 128 = r by omega]
    have e3 : B + T * (128 * q + r) = B + T * r + T * 128 * q := by rw [Nat.mul_add, ← Nat.mul_assoc]; omega
    rw [e3, Nat.add_mul_mod_self_left, Nat.mod_eq_of_lt]
    have : T * r + T ≤ T * 128 := by rw [← Nat.mul_succ]; exact Nat.mul_le_mul_left _ hr
    omega
end Go.Fw
