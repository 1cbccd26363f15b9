/-
  Numbers of four times sixty-four bits, as cells; their bits and bytes.
-/
import Derived.Test.YtjehncilahjmdaaFwC
set_option linter.unusedSimpArgs false
set_option linter.unnecessarySimpa false
set_option linter.unusedVariables false
set_option linter.unusedSectionVars false
namespace Go.Fw
/-- Sixty-four bits of a number. -/
def wd (n k : Nat) : Nat := n / 2 ^ (64 * k) % 2 ^ 64
def q4 (n : Nat) : List AV := [.int .u64 (wd n 0 : Nat), .int .u64 (wd n 1 : Nat), .int .u64 (wd n 2 : Nat), .int .u64 (wd n 3 : Nat)]
theorem q4_at {n k : Nat} (h : k < 4) : (q4 n)[k]? = some (.int .u64 (wd n k : Nat)) := by
  match k, h with
  | 0, _ => rfl
  | 1, _ => rfl
  | 2, _ => rfl
  | 3, _ => rfl
/-! ### Bits -/
/-! ### Bytes -/
/-- So many bytes of a number, the lowest first. -/
def byL (n s : Nat) : List UInt8 := (List.range n).map fun i => UInt8.ofNat (s / 256 ^ i)
/-- The number of bytes, the lowest first. -/
def byN : List UInt8 → Nat
  | [] => 0
  | x :: l => x.toNat + 256 * byN l
theorem byL_len (n s : Nat) : (byL n s).length = n := by simp [byL]
theorem byL_succ (n s : Nat) : byL (n + 1) s = byL n s ++ [UInt8.ofNat (s / 256 ^ n)] := by simp [byL, List.range_succ]
theorem byN_lt : ∀ (l : List UInt8), byN l < 256 ^ l.length
  | [] => by simp [byN]
  | x :: l => by
    have := byN_lt l
    have := x.toNat_lt
    simp only [byN, List.length_cons, Nat.pow_succ]
    omega
theorem byN_append : ∀ (a b : List UInt8), byN (a ++ b) = byN a + 256 ^ a.length * byN b
  | [], b => by simp [byN]
  | x :: a, b => by
    simp only [List.cons_append, byN, byN_append a b, List.length_cons, Nat.pow_succ]
    rw [Nat.mul_add, Nat.add_assoc, Nat.mul_comm (256 ^ a.length) 256, Nat.mul_assoc]
theorem byN_drop (l : List UInt8) (i : Nat) (h : i < l.length) : byN (l.drop i) = l[i].toNat + 256 * byN (l.drop (i + 1)) := by
  rw [List.drop_eq_getElem_cons h]; rfl
/-- A byte of the number of bytes. -/
theorem byN_div : ∀ (l : List UInt8) (i : Nat), byN l / 256 ^ i = byN (l.drop i)
  | [], i => by simp [byN]
  | x :: l, 0 => by simp
  | x :: l, i + 1 => by
    rw [List.drop_succ_cons, ← byN_div l i, Nat.pow_succ, Nat.mul_comm, ← Nat.div_div_eq_div_mul]
    congr 1
    have := x.toNat_lt
    simp only [byN]; omega
theorem byN_byte (l : List UInt8) (i : Nat) (h : i < l.length) : byN l / 256 ^ i % 256 = l[i].toNat := by
  rw [byN_div, byN_drop l i h]
  have := l[i].toNat_lt
  omega
theorem byL_byN (l : List UInt8) : byL l.length (byN l) = l := by
  refine List.ext_getElem (by simp [byL]) fun i h1 h2 => ?_
  simp only [byL, List.getElem_map, List.getElem_range]
  have h := byN_byte l i h2
  have e := UInt8.toNat_ofNat' (n := byN l / 256 ^ i)
  rw [← UInt8.toNat_inj, e]
  exact h
theorem byN_byL (n s : Nat) : byN (byL n s) = s % 256 ^ n := by
  induction n with
  | zero => simp [byL, byN, Nat.mod_one]
  | succ n ih =>
    rw [byL_succ, byN_append, ih, byL_len]
    simp only [byN, Nat.mul_zero, Nat.add_zero]
    have e : (UInt8.ofNat (s / 256 ^ n)).toNat = s / 256 ^ n % 256 := UInt8.toNat_ofNat'
    rw [e, Nat.pow_succ, Nat.mod_mul]
/-! ### Operations on numbers that are not below 0 -/
theorem wrap_u {k : IntKind} (hk : k.signed = false) (n : Nat) : k.wrap (n : Int) = (n % 2 ^ k.bits : Nat) := by
  unfold IntKind.wrap
  simp [hk]
theorem wrapu32 (n : Nat) : IntKind.u32.wrap (n : Int) = (n % 4294967296 : Nat) := wrap_u rfl n
theorem wrapu8 (n : Nat) : IntKind.u8.wrap (n : Int) = (n % 256 : Nat) := wrap_u rfl n
theorem wrap8_u8 (n : Nat) : IntKind.u8.wrap (n : Int) = ((UInt8.ofNat n).toNat : Int) := by
  rw [wrapu8]; simp
theorem bv_ofInt_nat (n m : Nat) : (BitVec.ofInt n (m : Int)).toNat = m % 2 ^ n := by simp [BitVec.toNat_ofInt]
theorem bitI_and {k : IntKind} (hk : k.signed = false) {a b : Nat} (ha : a < 2 ^ k.bits) (hb : b < 2 ^ k.bits) : bitI .and k a b = (a &&& b : Nat) := by
  simp only [bitI, BitVec.toNat_and, bv_ofInt_nat, Nat.mod_eq_of_lt ha, Nat.mod_eq_of_lt hb, wrap_u hk]
  rw [Nat.mod_eq_of_lt (Nat.and_lt_two_pow _ hb)]
theorem bitI_or {k : IntKind} (hk : k.signed = false) {a b : Nat} (ha : a < 2 ^ k.bits) (hb : b < 2 ^ k.bits) : bitI .or k a b = (a ||| b : Nat) := by
  simp only [bitI, BitVec.toNat_or, bv_ofInt_nat, Nat.mod_eq_of_lt ha, Nat.mod_eq_of_lt hb, wrap_u hk]
  rw [Nat.mod_eq_of_lt (Nat.or_lt_two_pow ha hb)]
theorem bitI_xor {k : IntKind} (hk : k.signed = false) {a b : Nat} (ha : a < 2 ^ k.bits) (hb : b < 2 ^ k.bits) : bitI .xor k a b = (a ^^^ b : Nat) := by
  simp only [bitI, BitVec.toNat_xor, bv_ofInt_nat, Nat.mod_eq_of_lt ha, Nat.mod_eq_of_lt hb, wrap_u hk]
  rw [Nat.mod_eq_of_lt (Nat.xor_lt_two_pow ha hb)]
/-- A shift to the right. -/
theorem shr_nat (a s : Nat) : (a : Int).fdiv (2 ^ s) = (a / 2 ^ s : Nat) := by
  have h : ((2 : Int) ^ s) = ((2 ^ s : Nat) : Int) := by simp
  rw [h, Int.fdiv_eq_ediv_of_nonneg _ (Int.natCast_nonneg _)]
  rfl
/-- A shift to the left, below what is there. -/
theorem or_shl (a b s : Nat) (h : a < 2 ^ s) : a ||| (b * 2 ^ s) = a + b * 2 ^ s := by
  rw [Nat.or_comm, ← Nat.shiftLeft_eq, ← Nat.shiftLeft_add_eq_or_of_lt h, Nat.add_comm]
end Go.Fw
namespace Go.Fw
@[simp] theorem cleanL_q4 (n : Nat) : cleanL (q4 n) = true := by simp [q4, cleanL, AV.clean]
@[simp] theorem ltL_q4 (m n : Nat) : ltL m (q4 n) = true := by simp [q4, ltL, AV.ltI]
@[simp] theorem idsL_q4 (q : Nat → Bool) (n : Nat) : idsL q (q4 n) = true := by simp [q4, idsL, AV.ids]
@[simp] theorem subL_q4 (s : Nat → Nat → Nat → Nat → Option Nat → AV) (p : Nat → Nat → AV) (n : Nat) : subL s p (q4 n) = q4 n := by simp [q4, subL, AV.sub]
@[simp] theorem q4_length (n : Nat) : (q4 n).length = 4 := by simp [q4]
@[simp] theorem take4_q4 (n : Nat) : (q4 n).take 4 = q4 n := by simp [q4]
@[simp] theorem hasK4_q4 (n : Nat) : hasK [.u64, .u64, .u64, .u64] (q4 n) = true := by simp [q4, hasK]
@[simp] theorem q4_getElem (n k : Nat) (h : k < (q4 n).length) : (q4 n)[k] = .int .u64 (wd n k : Nat) := by
  have e := q4_at (n := n) (k := k) (by simpa using h)
  rw [List.getElem?_eq_getElem h] at e
  exact Option.some.inj e
section
variable {P : Program} {L : Nat} {k : List It} {e : Env} {H : Heap} {Q : Post} {p : Pend} {d : Option Nat} {pos : Nat} {ks chk : List Nat} {l : List (DOper × List Nat)}
/-- Cells that are told one by one. -/
theorem WS_at_map {α : Type} [Inhabited α] (f : α → AV) (xs : List α) (i : Nat) : WS P L (atF (xs.map f) i) d ks l p e H k Q ↔ i < xs.length ∧ WR P L l p ((e.setO d (f (xs.getD i default))).dels ks) H k Q := by
  by_cases h : i < xs.length
  · simp [atF, h, WS, ok1]
  · simp [atF, h, WS]
theorem WSr_at_map {α : Type} [Inhabited α] (f : α → AV) (xs : List α) (i : Nat) (o : IOp) : WSr P L (atF (xs.map f) i) true o pos d ks l p e H k Q ↔ i < xs.length ∧ WR P L l ((pos, o, e, (f (xs.getD i default))) :: p) ((e.setO d (f (xs.getD i default))).dels ks) H k Q := by
  by_cases h : i < xs.length
  · simp [atF, h, WSr, ok1]
  · simp [atF, h, WSr]
end
/-! ### Order -/
end Go.Fw
namespace Go.Fw
/-! ### Sums and differences, part by part -/
/-- Behind the first parts of one number those of another. -/
def mx (i s n : Nat) : List AV := [.int .u64 (if 0 < i then wd s 0 else wd n 0 : Nat), .int .u64 (if 1 < i then wd s 1 else wd n 1 : Nat), .int .u64 (if 2 < i then wd s 2 else wd n 2 : Nat), .int .u64 (if 3 < i then wd s 3 else wd n 3 : Nat)]
@[simp] theorem mx_length (i s n : Nat) : (mx i s n).length = 4 := by simp [mx]
@[simp] theorem cleanL_mx (i s n : Nat) : cleanL (mx i s n) = true := by simp [mx, cleanL, AV.clean]
@[simp] theorem ltL_mx (m i s n : Nat) : ltL m (mx i s n) = true := by simp [mx, ltL, AV.ltI]
section
variable {P : Program} {L : Nat} {k : List It} {e : Env} {H : Heap} {Q : Post} {p : Pend} {d : Option Nat} {pos : Nat} {ks chk : List Nat} {l : List (DOper × List Nat)}
end
/-! ### Twice a number, and a bit -/
/-- All cells are written. -/
theorem splice_full {xs vs : List AV} (h : vs.length = xs.length) : splice xs 0 vs = vs := by
  rw [splice_take_drop _ _ _ (by omega)]; simp [h]
end Go.Fw
