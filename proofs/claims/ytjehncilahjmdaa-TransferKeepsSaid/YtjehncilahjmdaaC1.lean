/-
  The check sum of thirty-two bits: by a table, and bit by bit.
-/
import Derived.Test.YtjehncilahjmdaaH1
set_option linter.unusedSimpArgs false
set_option linter.unnecessarySimpa false
set_option linter.unusedVariables false
set_option linter.unusedSectionVars false
namespace Go.Fw
def poly : BitVec 32 := 0xedb88320#32
/-- A bit is taken away. -/
def fB (c : BitVec 32) : BitVec 32 := (c >>> 1) ^^^ (if c.getLsbD 0 = true then poly else 0#32)
def fBn : Nat → BitVec 32 → BitVec 32
  | 0, c => c
  | n + 1, c => fB (fBn n c)
/-- A byte more. -/
def xB (x : UInt8) : BitVec 32 := BitVec.ofNat 32 x.toNat
def stepC (c : BitVec 32) (x : UInt8) : BitVec 32 := fBn 8 (c ^^^ xB x)
def crcN (c : BitVec 32) (b : List UInt8) : BitVec 32 := b.foldl stepC c
/-- A sum, and bytes more. -/
def crcF (s : BitVec 32) (b : List UInt8) : BitVec 32 := ~~~ crcN (~~~ s) b
theorem fB_xor (a b : BitVec 32) : fB (a ^^^ b) = fB a ^^^ fB b := by
  unfold fB
  rw [BitVec.ushiftRight_xor_distrib, BitVec.getLsbD_xor]
  generalize a >>> 1 = x
  generalize b >>> 1 = y
  have e : ∀ (p q : Bool), x ^^^ y ^^^ (if (p ^^ q) = true then poly else 0#32) = (x ^^^ if p = true then poly else 0#32) ^^^ (y ^^^ if q = true then poly else 0#32) := by
    intro p q
    apply BitVec.eq_of_getLsbD_eq
    intro i hi
    cases p <;> cases q <;> simp only [Bool.xor_false, Bool.false_xor, Bool.xor_self, Bool.false_eq_true, if_true, if_false, BitVec.getLsbD_xor, BitVec.getLsbD_zero] <;>
      cases x.getLsbD i <;> cases y.getLsbD i <;> cases poly.getLsbD i <;> rfl
  exact e _ _
theorem fBn_xor (n : Nat) (a b : BitVec 32) : fBn n (a ^^^ b) = fBn n a ^^^ fBn n b := by
  induction n with
  | zero => rfl
  | succ n ih => rw [fBn, ih, fB_xor]; rfl
theorem fBn_hi (h : BitVec 32) (k : Nat) (hk : k ≤ 8) (h0 : ∀ i, i < 8 → h.getLsbD i = false) : fBn k h = h >>> k := by
  induction k with
  | zero => simp [fBn]
  | succ k ih =>
    rw [fBn, ih (by omega), fB]
    have : (h >>> k).getLsbD 0 = false := by rw [BitVec.getLsbD_ushiftRight, Nat.add_zero]; exact h0 k (by omega)
    rw [this, BitVec.shiftRight_add]
    simp
theorem xB_bit (x : UInt8) (i : Nat) (h : 8 ≤ i) : (xB x).getLsbD i = false := by
  unfold xB
  rw [BitVec.getLsbD_ofNat]
  have : x.toNat.testBit i = false := Nat.testBit_lt_two_pow (Nat.lt_of_lt_of_le x.toNat_lt (Nat.pow_le_pow_right (by decide) h))
  rw [this, Bool.and_false]
/-- By the table. -/
theorem stepC_table (c : BitVec 32) (x : UInt8) : stepC c x = fBn 8 ((c ^^^ xB x) &&& 255#32) ^^^ (c >>> 8) := by
  have e : c ^^^ xB x = ((c ^^^ xB x) &&& 255#32) ^^^ (c &&& ~~~ 255#32) := by
    apply BitVec.eq_of_getLsbD_eq
    intro i hi
    simp only [BitVec.getLsbD_xor, BitVec.getLsbD_and, BitVec.getLsbD_not, hi, decide_true, Bool.true_and]
    by_cases h : i < 8
    · have : (255#32).getLsbD i = true := by
        have : i = 0 ∨ i = 1 ∨ i = 2 ∨ i = 3 ∨ i = 4 ∨ i = 5 ∨ i = 6 ∨ i = 7 := by omega
        rcases this with rfl | rfl | rfl | rfl | rfl | rfl | rfl | rfl <;> decide
      rw [this]; simp
    · rw [xB_bit x i (by omega)]
      have : (255#32).getLsbD i = false := by
        rw [BitVec.getLsbD_ofNat]
        rw [Nat.testBit_lt_two_pow (Nat.lt_of_lt_of_le (show 255 < 2 ^ 8 by decide) (Nat.pow_le_pow_right (by decide) (by omega)))]
        simp
      rw [this]; simp
  unfold stepC
  conv => lhs; rw [e]
  rw [fBn_xor]
  congr 1
  have lo : ∀ i, i < 8 → (c &&& ~~~ 255#32).getLsbD i = false := by
    intro i h
    have : (255#32).getLsbD i = true := by
      have : i = 0 ∨ i = 1 ∨ i = 2 ∨ i = 3 ∨ i = 4 ∨ i = 5 ∨ i = 6 ∨ i = 7 := by omega
      rcases this with rfl | rfl | rfl | rfl | rfl | rfl | rfl | rfl <;> decide
    simp only [BitVec.getLsbD_and, BitVec.getLsbD_not, this, Bool.not_true, Bool.and_false]
  rw [fBn_hi _ 8 (Nat.le_refl _) lo]
  apply BitVec.eq_of_getLsbD_eq
  intro i hi
  simp only [BitVec.getLsbD_ushiftRight, BitVec.getLsbD_and, BitVec.getLsbD_not]
  by_cases h : 8 + i < 32
  · have : (255#32).getLsbD (8 + i) = false := by
      rw [BitVec.getLsbD_ofNat]
      rw [Nat.testBit_lt_two_pow (Nat.lt_of_lt_of_le (show 255 < 2 ^ 8 by decide) (Nat.pow_le_pow_right (by decide) (by omega)))]
      simp
    rw [this]; simp [h]
  · rw [BitVec.getLsbD_of_ge c _ (by omega)]; simp
theorem crcN_take (c : BitVec 32) (b : List UInt8) (i : Nat) (h : i < b.length) : crcN c (b.take (i + 1)) = stepC (crcN c (b.take i)) b[i] := by
  unfold crcN
  rw [List.take_add_one, List.getElem?_eq_getElem h, Option.toList_some, List.foldl_append]
  rfl
theorem crcF_append (s : BitVec 32) (a b : List UInt8) : crcF (crcF s a) b = crcF s (a ++ b) := by
  unfold crcF
  rw [BitVec.not_not]
  unfold crcN
  rw [List.foldl_append]
theorem wn_bit0 (c : BitVec 32) : wn c % 2 = (if c.getLsbD 0 = true then 1 else 0) := by
  have : c.getLsbD 0 = (wn c).testBit 0 := rfl
  rw [this, Nat.testBit_zero]
  by_cases h : wn c % 2 = 1
  · simp [h]
  · have : wn c % 2 = 0 := by omega
    simp [this]
end Go.Fw
