/-
  Numbers as digits of fifteen bits; powers modulo a number.
-/
import Derived.Test.YthgibibeoapfbaaN2
set_option linter.unusedSimpArgs false
set_option linter.unnecessarySimpa false
set_option linter.unusedVariables false
set_option linter.unusedSectionVars false
namespace Go.Fw
/-- A digit of fifteen bits. -/
def dig (n k : Nat) : Nat := n / 32768 ^ k % 32768
/-- What digits come to. -/
def vs (g : Nat → Nat) : Nat → Nat
  | 0 => 0
  | n + 1 => vs g n + g n * 32768 ^ n
/-- A number to a power, modulo another one; 'f' bits of the power at most. -/
def pwm (p a : Nat) : Nat → Nat → Nat
  | 0, _ => 1 % p
  | f + 1, e => if e % 2 = 1 then a * pwm p (a * a % p) f (e / 2) % p else pwm p (a * a % p) f (e / 2)
theorem pow_mod_mod (a p e : Nat) : (a % p) ^ e % p = a ^ e % p := by
  induction e with
  | zero => rfl
  | succ e ih => rw [Nat.pow_succ, Nat.pow_succ, Nat.mul_mod, ih, Nat.mod_mod, ← Nat.mul_mod]
theorem pwm_eq (p : Nat) : ∀ (f a e : Nat), e < 2 ^ f → pwm p a f e = a ^ e % p
  | 0, a, e, h => by rw [show e = 0 by simpa using h]; rfl
  | f + 1, a, e, h => by
    have ih := pwm_eq p f (a * a % p) (e / 2) (by rw [Nat.pow_succ] at h; omega)
    have e2 : (a * a) ^ (e / 2) = a ^ (2 * (e / 2)) := by rw [Nat.pow_mul, Nat.pow_two]
    rw [pow_mod_mod, e2] at ih
    rw [pwm, ih]
    split
    · rw [Nat.mul_mod_mod, Nat.mul_comm a, ← Nat.pow_succ, show (2 * (e / 2)).succ = e by omega]
    · rw [show 2 * (e / 2) = e by omega]
end Go.Fw
