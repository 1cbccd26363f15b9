/-
  Texts that belong together.
-/
import Derived.Test.YthgibibeoapfbaaFwC
set_option linter.unusedSimpArgs false
set_option linter.unnecessarySimpa false
set_option linter.unusedVariables false
set_option linter.unusedSectionVars false
/-
  Numbers of four times sixty-four bits, as cells; their bits and bytes.
-/
namespace Go.Fw
/-- Sixty-four bits of a number. -/
def wd (n k : Nat) : Nat := n / 2 ^ (64 * k) % 2 ^ 64
def q4 (n : Nat) : List AV := [.int .u64 (wd n 0 : Nat), .int .u64 (wd n 1 : Nat), .int .u64 (wd n 2 : Nat), .int .u64 (wd n 3 : Nat)]
theorem wd_lt (n k : Nat) : wd n k < 2 ^ 64 := Nat.mod_lt _ (by decide)
theorem wd0 (n : Nat) : wd n 0 = n % 18446744073709551616 := by simp [wd]
theorem wd1 (n : Nat) : wd n 1 = n / 18446744073709551616 % 18446744073709551616 := rfl
theorem wd2 (n : Nat) : wd n 2 = n / 340282366920938463463374607431768211456 % 18446744073709551616 := rfl
theorem wd3 (n : Nat) : wd n 3 = n / 6277101735386680763835789423207666416102355444464034512896 % 18446744073709551616 := rfl
theorem q4_at {n k : Nat} (h : k < 4) : (q4 n)[k]? = some (.int .u64 (wd n k : Nat)) := by
  match k, h with
  | 0, _ => rfl
  | 1, _ => rfl
  | 2, _ => rfl
  | 3, _ => rfl
/-- A number out of its parts. -/
def mk4 (a b c d : Nat) : Nat := a + 18446744073709551616 * b + 340282366920938463463374607431768211456 * c + 6277101735386680763835789423207666416102355444464034512896 * d
theorem wd_mk0 {a b c d : Nat} (ha : a < 2 ^ 64) : wd (mk4 a b c d) 0 = a := by rw [wd0]; simp only [mk4]; omega
theorem wd_mk1 {a b c d : Nat} (ha : a < 2 ^ 64) (hb : b < 2 ^ 64) : wd (mk4 a b c d) 1 = b := by rw [wd1]; simp only [mk4]; omega
theorem wd_mk2 {a b c d : Nat} (ha : a < 2 ^ 64) (hb : b < 2 ^ 64) (hc : c < 2 ^ 64) : wd (mk4 a b c d) 2 = c := by rw [wd2]; simp only [mk4]; omega
theorem wd_mk3 {a b c d : Nat} (ha : a < 2 ^ 64) (hb : b < 2 ^ 64) (hc : c < 2 ^ 64) (hd : d < 2 ^ 64) : wd (mk4 a b c d) 3 = d := by rw [wd3]; simp only [mk4]; omega
theorem q4_mk {a b c d : Nat} (ha : a < 2 ^ 64) (hb : b < 2 ^ 64) (hc : c < 2 ^ 64) (hd : d < 2 ^ 64) : q4 (mk4 a b c d) = [.int .u64 (a : Nat), .int .u64 (b : Nat), .int .u64 (c : Nat), .int .u64 (d : Nat)] := by
  simp only [q4, wd_mk0 ha, wd_mk1 ha hb, wd_mk2 ha hb hc, wd_mk3 ha hb hc hd]
theorem mk4_wd {n : Nat} (h : n < 2 ^ 256) : mk4 (wd n 0) (wd n 1) (wd n 2) (wd n 3) = n := by
  rw [wd0, wd1, wd2, wd3]; simp only [mk4]; omega
theorem q4_inj {m n : Nat} (hm : m < 2 ^ 256) (hn : n < 2 ^ 256) (h : q4 m = q4 n) : m = n := by
  simp only [q4, List.cons.injEq, AV.int.injEq, true_and, and_true, Int.natCast_inj] at h
  rw [← mk4_wd hm, ← mk4_wd hn, h.1, h.2.1, h.2.2.1, h.2.2.2]
theorem ints_q4 {m n : Nat} (hm : m < 2 ^ 256) (hn : n < 2 ^ 256) : (ints (q4 m) = ints (q4 n)) = (m = n) := by
  refine propext ⟨fun h => q4_inj hm hn ?_, fun h => by rw [h]⟩
  simp only [q4, ints, List.cons.injEq, and_true] at h
  simp only [q4, h.1, h.2.1, h.2.2.1, h.2.2.2]
theorem hasK_q4 (n : Nat) : hasK [.u64, .u64, .u64, .u64] (q4 n) = true := by simp [q4, hasK]
theorem q4_zero : q4 0 = [.int .u64 0, .int .u64 0, .int .u64 0, .int .u64 0] := rfl
/-! ### Bits -/
theorem wd_bit (n k j : Nat) (hj : j < 64) : wd n k / 2 ^ j % 2 = n / 2 ^ (64 * k + j) % 2 := by
  simp only [wd]
  rw [Nat.pow_add, ← Nat.div_div_eq_div_mul]
  generalize n / 2 ^ (64 * k) = m
  have h : m % 2 ^ 64 / 2 ^ j % 2 = m / 2 ^ j % 2 := by
    have e : (2 : Nat) ^ 64 = 2 ^ j * 2 ^ (64 - j) := by rw [← Nat.pow_add]; congr 1; omega
    rw [e, Nat.mod_mul_right_div_self]
    exact Nat.mod_mod_of_dvd _ (Nat.dvd_trans (by simp) (Nat.pow_dvd_pow 2 (by omega : 1 ≤ 64 - j)))
  exact h
/-- A bit of a number, by its place. -/
theorem wd_bit' (n i : Nat) : wd n (i / 64) / 2 ^ (i % 64) % 2 = n / 2 ^ i % 2 := by
  rw [wd_bit n _ _ (Nat.mod_lt _ (by decide))]
  congr 3; omega
/-- A byte of a number, by its place. -/
theorem wd_byte (n i : Nat) : wd n (i / 8) / 2 ^ (8 * (i % 8)) % 256 = n / 256 ^ i % 256 := by
  simp only [wd]
  have h1 : i % 8 < 8 := Nat.mod_lt _ (by decide)
  have h2 : (256 : Nat) ^ i = 2 ^ (64 * (i / 8)) * 2 ^ (8 * (i % 8)) := by
    rw [← Nat.pow_add, show (256 : Nat) = 2 ^ 8 from rfl, ← Nat.pow_mul]; congr 1; omega
  rw [h2, ← Nat.div_div_eq_div_mul]
  generalize n / 2 ^ (64 * (i / 8)) = m
  have e : (2 : Nat) ^ 64 = 2 ^ (8 * (i % 8)) * 2 ^ (64 - 8 * (i % 8)) := by rw [← Nat.pow_add]; congr 1; omega
  rw [e, Nat.mod_mul_right_div_self]
  refine Nat.mod_mod_of_dvd _ ?_
  exact (show (256 : Nat) = 2 ^ 8 from rfl) ▸ Nat.pow_dvd_pow 2 (by omega)
/-! ### Bytes -/
/-- So many bytes of a number, the lowest first. -/
def byL (n s : Nat) : List UInt8 := (List.range n).map fun i => UInt8.ofNat (s / 256 ^ i)
/-- The number of bytes, the lowest first. -/
def byN : List UInt8 → Nat
  | [] => 0
  | x :: l => x.toNat + 256 * byN l
theorem byN_lt : ∀ (l : List UInt8), byN l < 256 ^ l.length
  | [] => by simp [byN]
  | x :: l => by
    have := byN_lt l
    have := x.toNat_lt
    simp only [byN, List.length_cons, Nat.pow_succ]
    omega
theorem byN_append : ∀ (a b : List UInt8), byN (a ++ b) = byN a + 256 ^ a.length * byN b
  | [], b => by simp [byN]
  | x :: a, b => by
    simp only [List.cons_append, byN, byN_append a b, List.length_cons, Nat.pow_succ]
    rw [Nat.mul_add, Nat.add_assoc, Nat.mul_comm (256 ^ a.length) 256, Nat.mul_assoc]
theorem byN_take (l : List UInt8) (i : Nat) (h : i < l.length) : byN (l.take (i + 1)) = byN (l.take i) + l[i].toNat * 256 ^ i := by
  rw [List.take_succ_eq_append_getElem h, byN_append, List.length_take, Nat.min_eq_left (by omega)]
  simp [byN, Nat.mul_comm]
theorem byN_drop (l : List UInt8) (i : Nat) (h : i < l.length) : byN (l.drop i) = l[i].toNat + 256 * byN (l.drop (i + 1)) := by
  rw [List.drop_eq_getElem_cons h]; rfl
/-- A byte of the number of bytes. -/
theorem byN_div : ∀ (l : List UInt8) (i : Nat), byN l / 256 ^ i = byN (l.drop i)
  | [], i => by simp [byN]
  | x :: l, 0 => by simp
  | x :: l, i + 1 => by
    rw [List.drop_succ_cons, ← byN_div l i, Nat.pow_succ, Nat.mul_comm, ← Nat.div_div_eq_div_mul]
    congr 1
    have := x.toNat_lt
    simp only [byN]; omega
theorem byN_byte (l : List UInt8) (i : Nat) (h : i < l.length) : byN l / 256 ^ i % 256 = l[i].toNat := by
  rw [byN_div, byN_drop l i h]
  have := l[i].toNat_lt
  omega
/-- A bit of bytes. -/
theorem byN_bit (l : List UInt8) (i : Nat) (h : i / 8 < l.length) : l[i / 8].toNat / 2 ^ (i % 8) % 2 = byN l / 2 ^ i % 2 := by
  have e : (2 : Nat) ^ i = 256 ^ (i / 8) * 2 ^ (i % 8) := by
    rw [show (256 : Nat) = 2 ^ 8 from rfl, ← Nat.pow_mul, ← Nat.pow_add]; congr 1; omega
  rw [e, ← Nat.div_div_eq_div_mul, byN_div, byN_drop l _ h]
  have h1 : i % 8 < 8 := Nat.mod_lt _ (by decide)
  generalize l[i / 8].toNat = x
  generalize byN (l.drop (i / 8 + 1)) = y
  have e2 : 256 * y = 2 ^ (i % 8) * (2 ^ (8 - i % 8) * y) := by
    rw [← Nat.mul_assoc, ← Nat.pow_add]; congr 1; rw [show (256 : Nat) = 2 ^ 8 from rfl]; congr 1; omega
  rw [e2, Nat.add_mul_div_left _ _ (Nat.pow_pos (by decide))]
  have e3 : 2 ^ (8 - i % 8) * y = 2 * (2 ^ (7 - i % 8) * y) := by
    rw [← Nat.mul_assoc, ← Nat.pow_succ']; congr 2; omega
  rw [e3, Nat.add_mul_mod_self_left]
/-! ### Operations on numbers that are not below 0 -/
theorem wrap_u {k : IntKind} (hk : k.signed = false) (n : Nat) : k.wrap (n : Int) = (n % 2 ^ k.bits : Nat) := by
  unfold IntKind.wrap
  simp [hk]
theorem wrapu64 (n : Nat) : IntKind.u64.wrap (n : Int) = (n % 18446744073709551616 : Nat) := wrap_u rfl n
theorem wrapu8 (n : Nat) : IntKind.u8.wrap (n : Int) = (n % 256 : Nat) := wrap_u rfl n
theorem wrap8_u8 (n : Nat) : IntKind.u8.wrap (n : Int) = ((UInt8.ofNat n).toNat : Int) := by
  rw [wrapu8]; simp
theorem bv_ofInt_nat (n m : Nat) : (BitVec.ofInt n (m : Int)).toNat = m % 2 ^ n := by simp [BitVec.toNat_ofInt]
theorem bitI_and {k : IntKind} (hk : k.signed = false) {a b : Nat} (ha : a < 2 ^ k.bits) (hb : b < 2 ^ k.bits) : bitI .and k a b = (a &&& b : Nat) := by
  simp only [bitI, BitVec.toNat_and, bv_ofInt_nat, Nat.mod_eq_of_lt ha, Nat.mod_eq_of_lt hb, wrap_u hk]
  rw [Nat.mod_eq_of_lt (Nat.and_lt_two_pow _ hb)]
theorem bitI_or {k : IntKind} (hk : k.signed = false) {a b : Nat} (ha : a < 2 ^ k.bits) (hb : b < 2 ^ k.bits) : bitI .or k a b = (a ||| b : Nat) := by
  simp only [bitI, BitVec.toNat_or, bv_ofInt_nat, Nat.mod_eq_of_lt ha, Nat.mod_eq_of_lt hb, wrap_u hk]
  rw [Nat.mod_eq_of_lt (Nat.or_lt_two_pow ha hb)]
theorem bitI_xor {k : IntKind} (hk : k.signed = false) {a b : Nat} (ha : a < 2 ^ k.bits) (hb : b < 2 ^ k.bits) : bitI .xor k a b = (a ^^^ b : Nat) := by
  simp only [bitI, BitVec.toNat_xor, bv_ofInt_nat, Nat.mod_eq_of_lt ha, Nat.mod_eq_of_lt hb, wrap_u hk]
  rw [Nat.mod_eq_of_lt (Nat.xor_lt_two_pow ha hb)]
/-- The lowest bit. -/
theorem and1_u64 {a : Nat} (ha : a < 2 ^ 64) : bitI .and .u64 a 1 = (a % 2 : Nat) := by
  have h := bitI_and (k := .u64) rfl (a := a) (b := 1) ha (by decide)
  rw [Nat.and_one_is_mod] at h
  exact h
theorem and1_u8 {a : Nat} (ha : a < 2 ^ 8) : bitI .and .u8 a 1 = (a % 2 : Nat) := by
  have h := bitI_and (k := .u8) rfl (a := a) (b := 1) ha (by decide)
  rw [Nat.and_one_is_mod] at h
  exact h
/-- A shift to the right. -/
theorem shr_nat (a s : Nat) : (a : Int).fdiv (2 ^ s) = (a / 2 ^ s : Nat) := by
  have h : ((2 : Int) ^ s) = ((2 ^ s : Nat) : Int) := by simp
  rw [h, Int.fdiv_eq_ediv_of_nonneg _ (Int.natCast_nonneg _)]
  rfl
/-- A shift to the left, below what is there. -/
theorem or_shl (a b s : Nat) (h : a < 2 ^ s) : a ||| (b * 2 ^ s) = a + b * 2 ^ s := by
  rw [Nat.or_comm, ← Nat.shiftLeft_eq, ← Nat.shiftLeft_add_eq_or_of_lt h, Nat.add_comm]
theorem shl_or (a b s : Nat) (h : a < 2 ^ s) : (b * 2 ^ s) ||| a = b * 2 ^ s + a := by
  rw [← Nat.shiftLeft_eq, ← Nat.shiftLeft_add_eq_or_of_lt h]
end Go.Fw
namespace Go.Fw
@[simp] theorem cleanL_q4 (n : Nat) : cleanL (q4 n) = true := by simp [q4, cleanL, AV.clean]
@[simp] theorem ltL_q4 (m n : Nat) : ltL m (q4 n) = true := by simp [q4, ltL, AV.ltI]
@[simp] theorem idsL_q4 (q : Nat → Bool) (n : Nat) : idsL q (q4 n) = true := by simp [q4, idsL, AV.ids]
@[simp] theorem subL_q4 (s : Nat → Nat → Nat → Nat → Option Nat → AV) (p : Nat → Nat → AV) (n : Nat) : subL s p (q4 n) = q4 n := by simp [q4, subL, AV.sub]
@[simp] theorem q4_length (n : Nat) : (q4 n).length = 4 := by simp [q4]
@[simp] theorem take4_q4 (n : Nat) : (q4 n).take 4 = q4 n := by simp [q4]
@[simp] theorem hasK4_q4 (n : Nat) : hasK [.u64, .u64, .u64, .u64] (q4 n) = true := by simp [q4, hasK]
@[simp] theorem q4_getElem (n k : Nat) (h : k < (q4 n).length) : (q4 n)[k] = .int .u64 (wd n k : Nat) := by
  have e := q4_at (n := n) (k := k) (by simpa using h)
  rw [List.getElem?_eq_getElem h] at e
  exact Option.some.inj e
section
variable {P : Program} {L : Nat} {k : List It} {e : Env} {H : Heap} {Q : Post} {p : Pend} {d : Option Nat} {pos : Nat} {ks chk : List Nat} {l : List (DOper × List Nat)}
theorem WS_at_q4 (n i : Nat) : WS P L (atF (q4 n) i) d ks l p e H k Q ↔ i < 4 ∧ WR P L l p ((e.setO d (.int .u64 (wd n i : Nat))).dels ks) H k Q := by
  by_cases h : i < 4
  · rw [show atF (q4 n) i = ok1 (.int .u64 (wd n i : Nat)) by unfold atF; rw [q4_at h]]; simp [h, WS, ok1]
  · have hn : (q4 n)[i]? = none := List.getElem?_eq_none (by simp; omega)
    simp [atF, hn, h, WS]
theorem WSr_at_q4 (n i : Nat) (o : IOp) : WSr P L (atF (q4 n) i) true o pos d ks l p e H k Q ↔ i < 4 ∧ WR P L l ((pos, o, e, (.int .u64 (wd n i : Nat))) :: p) ((e.setO d (.int .u64 (wd n i : Nat))).dels ks) H k Q := by
  by_cases h : i < 4
  · rw [show atF (q4 n) i = ok1 (.int .u64 (wd n i : Nat)) by unfold atF; rw [q4_at h]]; simp [h, WSr, ok1]
  · have hn : (q4 n)[i]? = none := List.getElem?_eq_none (by simp; omega)
    simp [atF, hn, h, WSr]
/-- Cells that are told one by one. -/
theorem WS_at_map {α : Type} [Inhabited α] (f : α → AV) (xs : List α) (i : Nat) : WS P L (atF (xs.map f) i) d ks l p e H k Q ↔ i < xs.length ∧ WR P L l p ((e.setO d (f (xs.getD i default))).dels ks) H k Q := by
  by_cases h : i < xs.length
  · simp [atF, h, WS, ok1]
  · simp [atF, h, WS]
theorem WSr_at_map {α : Type} [Inhabited α] (f : α → AV) (xs : List α) (i : Nat) (o : IOp) : WSr P L (atF (xs.map f) i) true o pos d ks l p e H k Q ↔ i < xs.length ∧ WR P L l ((pos, o, e, (f (xs.getD i default))) :: p) ((e.setO d (f (xs.getD i default))).dels ks) H k Q := by
  by_cases h : i < xs.length
  · simp [atF, h, WSr, ok1]
  · simp [atF, h, WSr]
end
/-! ### Order -/
theorem lt_div {x y m : Nat} (h : x / m ≠ y / m) : (x < y) = (x / m < y / m) := by
  refine propext ⟨fun hl => Nat.lt_of_le_of_ne (Nat.div_le_div_right (Nat.le_of_lt hl)) h, fun hl => ?_⟩
  apply Classical.byContradiction
  intro hn
  exact absurd (Nat.div_le_div_right (c := m) (Nat.le_of_not_lt hn)) (Nat.not_le_of_lt hl)
theorem wd_div (n k : Nat) : n / 2 ^ (64 * k) = wd n k + 2 ^ 64 * (n / 2 ^ (64 * (k + 1))) := by
  have h := Nat.mod_add_div (n / 2 ^ (64 * k)) (2 ^ 64)
  rw [Nat.div_div_eq_div_mul, ← Nat.pow_add] at h
  exact h.symm
/-- Parts that differ tell the order. -/
theorem wd_cmp {a b k : Nat} (h : a / 2 ^ (64 * (k + 1)) = b / 2 ^ (64 * (k + 1))) (hn : wd a k ≠ wd b k) : (a < b) = (wd a k < wd b k) := by
  have h1 := wd_div a k
  have h2 := wd_div b k
  rw [lt_div (m := 2 ^ (64 * k)) (by omega), h1, h2, h]
  exact propext ⟨fun h => by omega, fun h => by omega⟩
theorem wd_eq {a b k : Nat} (h : a / 2 ^ (64 * (k + 1)) = b / 2 ^ (64 * (k + 1))) (hn : wd a k = wd b k) : a / 2 ^ (64 * k) = b / 2 ^ (64 * k) := by
  rw [wd_div a k, wd_div b k, h, hn]
end Go.Fw
namespace Go.Fw
/-! ### Sums and differences, part by part -/
def car (a b i : Nat) : Nat := (a % 2 ^ (64 * i) + b % 2 ^ (64 * i)) / 2 ^ (64 * i)
def bor (a b i : Nat) : Nat := if a % 2 ^ (64 * i) < b % 2 ^ (64 * i) then 1 else 0
theorem car_zero (a b : Nat) : car a b 0 = 0 := by simp [car, Nat.mod_one]
theorem bor_zero (a b : Nat) : bor a b 0 = 0 := by simp [bor, Nat.mod_one]
theorem car_le (a b i : Nat) : car a b i ≤ 1 := by
  simp only [car]
  have hp : 0 < 2 ^ (64 * i) := Nat.pow_pos (by decide)
  have h1 := Nat.mod_lt a hp
  have h2 := Nat.mod_lt b hp
  exact Nat.le_of_lt_succ ((Nat.div_lt_iff_lt_mul hp).2 (by omega))
theorem bor_le (a b i : Nat) : bor a b i ≤ 1 := by simp only [bor]; split <;> omega
theorem pow_next (i : Nat) : 2 ^ (64 * (i + 1)) = 2 ^ (64 * i) * 18446744073709551616 := by rw [Nat.mul_add, Nat.pow_add]
theorem mod_next (a i : Nat) : a % 2 ^ (64 * (i + 1)) = a % 2 ^ (64 * i) + 2 ^ (64 * i) * wd a i := by
  rw [pow_next, Nat.mod_mul]; rfl
theorem wd_add (a b i : Nat) : wd (a + b) i = (wd a i + wd b i + car a b i) % 18446744073709551616 := by
  have hp : 0 < 2 ^ (64 * i) := Nat.pow_pos (by decide)
  have e : (a + b) / 2 ^ (64 * i) = a / 2 ^ (64 * i) + b / 2 ^ (64 * i) + car a b i := by
    simp only [car]
    generalize 2 ^ (64 * i) = m at *
    have h1 := Nat.mod_add_div a m
    have h2 := Nat.mod_add_div b m
    have h3 : a + b = (a % m + b % m) + m * (a / m + b / m) := by rw [Nat.mul_add]; omega
    rw [h3, Nat.add_mul_div_left _ _ hp]
    omega
  simp only [wd, e]
  omega
theorem car_succ (a b i : Nat) : (wd a i + wd b i + car a b i) / 18446744073709551616 = car a b (i + 1) := by
  have hp : 0 < 2 ^ (64 * i) := Nat.pow_pos (by decide)
  simp only [car, mod_next]
  rw [pow_next, ← Nat.div_div_eq_div_mul]
  congr 1
  generalize 2 ^ (64 * i) = m at *
  have h3 : a % m + m * wd a i + (b % m + m * wd b i) = (a % m + b % m) + m * (wd a i + wd b i) := by rw [Nat.mul_add]; omega
  rw [h3, Nat.add_mul_div_left _ _ hp]
  omega
theorem lex_lt {m x y a b : Nat} (hx : x < m) (hy : y < m) : (x + m * a < y + m * b) = (a < b + (if x < y then 1 else 0)) := by
  refine propext ?_
  rcases Nat.lt_trichotomy a b with h | h | h
  · obtain ⟨c, rfl⟩ := Nat.exists_eq_add_of_lt h
    have e : m * (a + c + 1) = m * a + m * c + m := by rw [Nat.mul_add, Nat.mul_add, Nat.mul_one]
    have := Nat.zero_le (m * c)
    refine ⟨fun _ => by omega, fun _ => by omega⟩
  · subst h
    by_cases hxy : x < y
    · simp [hxy]
    · simp [hxy]
  · obtain ⟨c, rfl⟩ := Nat.exists_eq_add_of_lt h
    have e : m * (b + c + 1) = m * b + m * c + m := by rw [Nat.mul_add, Nat.mul_add, Nat.mul_one]
    have := Nat.zero_le (m * c)
    refine ⟨fun _ => by omega, fun h => by split at h <;> omega⟩
theorem bor_succ (a b i : Nat) : (if wd a i < wd b i + bor a b i then 1 else 0) = bor a b (i + 1) := by
  have hp : 0 < 2 ^ (64 * i) := Nat.pow_pos (by decide)
  have h : (a % 2 ^ (64 * i) + 2 ^ (64 * i) * wd a i < b % 2 ^ (64 * i) + 2 ^ (64 * i) * wd b i) = (wd a i < wd b i + bor a b i) := lex_lt (Nat.mod_lt a hp) (Nat.mod_lt b hp)
  show _ = if a % 2 ^ (64 * (i + 1)) < b % 2 ^ (64 * (i + 1)) then 1 else 0
  simp only [mod_next, h]
theorem wd_sub (a b i : Nat) (h : b ≤ a) : (wd a i + 18446744073709551616 - wd b i - bor a b i) % 18446744073709551616 = wd (a - b) i := by
  have hp : 0 < 2 ^ (64 * i) := Nat.pow_pos (by decide)
  have e : (a - b) / 2 ^ (64 * i) = a / 2 ^ (64 * i) - b / 2 ^ (64 * i) - bor a b i ∧ b / 2 ^ (64 * i) + bor a b i ≤ a / 2 ^ (64 * i) := by
    simp only [bor]
    generalize 2 ^ (64 * i) = m at *
    have h1 := Nat.mod_add_div a m
    have h2 := Nat.mod_add_div b m
    have l1 := Nat.mod_lt a hp
    have l2 := Nat.mod_lt b hp
    have hl : ¬ (a % m + m * (a / m) < b % m + m * (b / m)) := by omega
    rw [lex_lt l1 l2] at hl
    generalize a % m = x at *
    generalize b % m = y at *
    obtain ⟨c, hc⟩ := Nat.exists_eq_add_of_le (Nat.le_of_not_lt hl)
    rw [hc] at h1 ⊢
    refine ⟨?_, by omega⟩
    have e2 : m * (b / m + (if x < y then 1 else 0) + c) = m * (b / m) + (if x < y then m else 0) + m * c := by
      rw [Nat.mul_add, Nat.mul_add]; split <;> simp
    rw [e2] at h1
    have e3 : a - b = (x + (if x < y then m else 0) - y) + m * c := by split at h1 <;> rename_i hxy <;> simp only [hxy, if_true, if_false] <;> omega
    rw [e3, Nat.add_mul_div_left _ _ hp, Nat.div_eq_of_lt (by split <;> omega)]
    omega
  have hb := bor_le a b i
  simp only [wd, e.1]
  omega
/-- Behind the first parts of one number those of another. -/
def mx (i s n : Nat) : List AV := [.int .u64 (if 0 < i then wd s 0 else wd n 0 : Nat), .int .u64 (if 1 < i then wd s 1 else wd n 1 : Nat), .int .u64 (if 2 < i then wd s 2 else wd n 2 : Nat), .int .u64 (if 3 < i then wd s 3 else wd n 3 : Nat)]
theorem mx_zero (s n : Nat) : mx 0 s n = q4 n := rfl
theorem mx_four (s n : Nat) : mx 4 s n = q4 s := rfl
theorem mx_at {i s n k : Nat} (h : k < 4) : (mx i s n)[k]? = some (.int .u64 (if k < i then wd s k else wd n k : Nat)) := by
  match k, h with
  | 0, _ => rfl
  | 1, _ => rfl
  | 2, _ => rfl
  | 3, _ => rfl
@[simp] theorem mx_length (i s n : Nat) : (mx i s n).length = 4 := by simp [mx]
@[simp] theorem cleanL_mx (i s n : Nat) : cleanL (mx i s n) = true := by simp [mx, cleanL, AV.clean]
@[simp] theorem ltL_mx (m i s n : Nat) : ltL m (mx i s n) = true := by simp [mx, ltL, AV.ltI]
theorem mx_set {i : Nat} (s n : Nat) (h : i < 4) : splice (mx i s n) i [.int .u64 (wd s i : Nat)] = mx (i + 1) s n := by
  match i, h with
  | 0, _ => rfl
  | 1, _ => rfl
  | 2, _ => rfl
  | 3, _ => rfl
theorem mx_set' {i : Nat} (s n : Nat) (h : i < 4) : (mx i s n).set i (.int .u64 (wd s i : Nat)) = mx (i + 1) s n := mx_set s n h
section
variable {P : Program} {L : Nat} {k : List It} {e : Env} {H : Heap} {Q : Post} {p : Pend} {d : Option Nat} {pos : Nat} {ks chk : List Nat} {l : List (DOper × List Nat)}
theorem WS_at_mx (s n i : Nat) : WS P L (atF (mx i s n) i) d ks l p e H k Q ↔ i < 4 ∧ WR P L l p ((e.setO d (.int .u64 (wd n i : Nat))).dels ks) H k Q := by
  by_cases h : i < 4
  · rw [show atF (mx i s n) i = ok1 (.int .u64 (wd n i : Nat)) by unfold atF; rw [mx_at h, if_neg (Nat.lt_irrefl i)]]; simp [h, WS, ok1]
  · have hn : (mx i s n)[i]? = none := List.getElem?_eq_none (by simp; omega)
    simp [atF, hn, h, WS]
end
/-! ### Twice a number, and a bit -/
def dca (n bit i : Nat) : Nat := (2 * (n % 2 ^ (64 * i)) + bit) / 2 ^ (64 * i)
theorem dca_zero (n bit : Nat) : dca n bit 0 = bit := by simp [dca, Nat.mod_one]
theorem dca_next (n bit i : Nat) : (wd n i * 2 + dca n bit i) / 18446744073709551616 = dca n bit (i + 1) := by
  have hp : 0 < 2 ^ (64 * i) := Nat.pow_pos (by decide)
  simp only [dca, mod_next]
  rw [pow_next, ← Nat.div_div_eq_div_mul]
  congr 1
  generalize 2 ^ (64 * i) = m at *
  have h3 : 2 * (n % m + m * wd n i) + bit = (2 * (n % m) + bit) + m * (wd n i * 2) := by
    rw [Nat.mul_add, ← Nat.mul_assoc m, Nat.mul_comm 2 (m * _)]; omega
  rw [h3, Nat.add_mul_div_left _ _ hp]
  omega
theorem dca_le (n bit : Nat) (hb : bit ≤ 1) : ∀ i, dca n bit i ≤ 1
  | 0 => by rw [dca_zero]; exact hb
  | i + 1 => by
    rw [← dca_next]
    have := dca_le n bit hb i
    have := wd_lt n i
    omega
theorem dca_succ (n bit i : Nat) (hb : bit ≤ 1) : wd n i / 9223372036854775808 = dca n bit (i + 1) := by
  rw [← dca_next]
  have := dca_le n bit hb i
  omega
theorem wd_dbl (n bit i : Nat) : wd (2 * n + bit) i = (wd n i * 2 + dca n bit i) % 18446744073709551616 := by
  have hp : 0 < 2 ^ (64 * i) := Nat.pow_pos (by decide)
  have e : (2 * n + bit) / 2 ^ (64 * i) = n / 2 ^ (64 * i) * 2 + dca n bit i := by
    simp only [dca]
    generalize 2 ^ (64 * i) = m at *
    have h1 := Nat.mod_add_div n m
    have h3 : 2 * n + bit = (2 * (n % m) + bit) + m * (n / m * 2) := by
      rw [← Nat.mul_assoc]; omega
    rw [h3, Nat.add_mul_div_left _ _ hp]
    omega
  simp only [wd, e]
  omega
/-- All cells are written. -/
theorem splice_full {xs vs : List AV} (h : vs.length = xs.length) : splice xs 0 vs = vs := by
  rw [splice_take_drop _ _ _ (by omega)]; simp [h]
end Go.Fw

/-
  Arrays of numbers, told by what lies at each place.
-/
namespace Go.Fw
/-- Cells of so many numbers. -/
def arr (K : IntKind) (m : Nat) (g : Nat → Nat) : List AV := (List.range m).map fun k => .int K (g k : Nat)
@[simp] theorem arr_length (K : IntKind) (m : Nat) (g : Nat → Nat) : (arr K m g).length = m := by simp [arr]
theorem arr_at {K : IntKind} {m i : Nat} {g : Nat → Nat} (h : i < m) : (arr K m g)[i]? = some (.int K (g i : Nat)) := by simp [arr, h]
@[simp] theorem arr_getElem (K : IntKind) (m : Nat) (g : Nat → Nat) (k : Nat) (h : k < (arr K m g).length) : (arr K m g)[k] = .int K (g k : Nat) := by simp [arr]
@[simp] theorem cleanL_arr (K : IntKind) (m : Nat) (g : Nat → Nat) : cleanL (arr K m g) = true := cleanL_map _ fun x => by simp [AV.clean]
@[simp] theorem ltL_arr (n : Nat) (K : IntKind) (m : Nat) (g : Nat → Nat) : ltL n (arr K m g) = true := ltL_map _ fun x => by simp [AV.ltI]
@[simp] theorem idsL_arr (q : Nat → Bool) (K : IntKind) (m : Nat) (g : Nat → Nat) : idsL q (arr K m g) = true := idsL_map _ fun x => by simp [AV.ids]
@[simp] theorem subL_arr (s : Nat → Nat → Nat → Nat → Option Nat → AV) (p : Nat → Nat → AV) (K : IntKind) (m : Nat) (g : Nat → Nat) : subL s p (arr K m g) = arr K m g := subL_map _ fun x => by simp [AV.sub]
theorem arr_take (K : IntKind) (m : Nat) (g : Nat → Nat) : (arr K m g).take m = arr K m g := List.take_of_length_le (by simp)
/-- Equal at each place. -/
theorem arr_ext {K : IntKind} {m : Nat} {g h : Nat → Nat} (e : ∀ k, k < m → g k = h k) : arr K m g = arr K m h := by
  refine List.map_congr_left fun k hk => ?_
  rw [e k (by simpa using hk)]
theorem arr_inj {K : IntKind} {m : Nat} {g h : Nat → Nat} (e : arr K m g = arr K m h) : ∀ k, k < m → g k = h k := fun k hk => by
  have h1 := arr_at (K := K) (g := g) hk
  have h2 := arr_at (K := K) (g := h) hk
  rw [e, h2] at h1
  exact Int.natCast_inj.1 (by simpa using h1.symm)
/-- A place is written. -/
def upd (g : Nat → Nat) (i v : Nat) : Nat → Nat := fun k => if k = i then v else g k
theorem arr_set (K : IntKind) (m : Nat) (g : Nat → Nat) (i v : Nat) : (arr K m g).set i (.int K (v : Nat)) = arr K m (upd g i v) := by
  refine List.ext_getElem (by simp) fun k h1 h2 => ?_
  simp only [arr_getElem, upd, List.getElem_set]
  by_cases h : k = i
  · subst h; simp
  · simp [h, Ne.symm h]
theorem hasK_rep (K : IntKind) : ∀ (m : Nat) (l : List AV), (∀ x ∈ l, ∃ n, x = .int K n) → l.length = m → hasK (List.replicate m K) l = true
  | 0, [], _, _ => rfl
  | m + 1, x :: l, h, hl => by
    obtain ⟨n, rfl⟩ := h x (by simp)
    simp only [List.replicate_succ, hasK, decide_true, Bool.true_and]
    exact hasK_rep K m l (fun y hy => h y (by simp [hy])) (by simpa using hl)
theorem hasK_arr (K : IntKind) (m : Nat) (g : Nat → Nat) : hasK (List.replicate m K) (arr K m g) = true :=
  hasK_rep K m _ (fun x hx => by obtain ⟨k, _, rfl⟩ := List.mem_map.1 hx; exact ⟨_, rfl⟩) (by simp)
theorem ints_map {α : Type} (K : IntKind) (f : α → Int) : ∀ l : List α, ints (l.map fun x => AV.int K (f x)) = l.map f
  | [] => rfl
  | x :: l => by simp only [List.map_cons, ints, ints_map K f l]
theorem ints_arr (K : IntKind) (m : Nat) (g : Nat → Nat) : ints (arr K m g) = (List.range m).map fun k => (g k : Int) := ints_map K _ _
theorem q4_arr (n : Nat) : q4 n = arr .u64 4 (wd n) := rfl
theorem byL_arr (m n : Nat) : (byL m n).map bv = arr .u8 m fun k => n / 256 ^ k % 256 := by
  refine List.ext_getElem (by simp [byL]) fun k h1 h2 => ?_
  simp [byL, bv]
section
variable {P : Program} {L : Nat} {k : List It} {e : Env} {H : Heap} {Q : Post} {p : Pend} {d : Option Nat} {pos : Nat} {ks chk : List Nat} {l : List (DOper × List Nat)}
theorem WS_at_arr (K : IntKind) (m : Nat) (g : Nat → Nat) (i : Nat) : WS P L (atF (arr K m g) i) d ks l p e H k Q ↔ i < m ∧ WR P L l p ((e.setO d (.int K (g i : Nat))).dels ks) H k Q := by
  by_cases h : i < m
  · rw [show atF (arr K m g) i = ok1 (.int K (g i : Nat)) by unfold atF; rw [arr_at h]]; simp [h, WS, ok1]
  · have hn : (arr K m g)[i]? = none := List.getElem?_eq_none (by simp; omega)
    simp [atF, hn, h, WS]
theorem WSr_at_arr (K : IntKind) (m : Nat) (g : Nat → Nat) (i : Nat) (o : IOp) : WSr P L (atF (arr K m g) i) true o pos d ks l p e H k Q ↔ i < m ∧ WR P L l ((pos, o, e, (.int K (g i : Nat))) :: p) ((e.setO d (.int K (g i : Nat))).dels ks) H k Q := by
  by_cases h : i < m
  · rw [show atF (arr K m g) i = ok1 (.int K (g i : Nat)) by unfold atF; rw [arr_at h]]; simp [h, WSr, ok1]
  · have hn : (arr K m g)[i]? = none := List.getElem?_eq_none (by simp; omega)
    simp [atF, hn, h, WSr]
end
/-! ### Numbers of one kind in a list -/
def nV (K : IntKind) (n : Nat) : AV := .int K n
section
variable (K : IntKind) (l : List Nat)
@[simp] theorem cleanL_nV : cleanL (l.map (nV K)) = true := cleanL_map _ fun x => by simp [nV, AV.clean]
@[simp] theorem ltL_nV (n : Nat) : ltL n (l.map (nV K)) = true := ltL_map _ fun x => by simp [nV, AV.ltI]
@[simp] theorem idsL_nV (q : Nat → Bool) : idsL q (l.map (nV K)) = true := idsL_map _ fun x => by simp [nV, AV.ids]
@[simp] theorem subL_nV (s : Nat → Nat → Nat → Nat → Option Nat → AV) (p : Nat → Nat → AV) : subL s p (l.map (nV K)) = l.map (nV K) := subL_map _ fun x => by simp [nV, AV.sub]
end
theorem byN_bitD (l : List UInt8) (i : Nat) : (l.getD (i / 8) 0).toNat / 2 ^ (i % 8) % 2 = byN l / 2 ^ i % 2 := by
  by_cases h : i / 8 < l.length
  · rw [← byN_bit l i h]; simp [h]
  · have e : byN l / 2 ^ i = 0 := by
      refine Nat.div_eq_of_lt (Nat.lt_of_lt_of_le (byN_lt l) ?_)
      rw [show (256 : Nat) = 2 ^ 8 from rfl, ← Nat.pow_mul]
      exact Nat.pow_le_pow_right (by decide) (by omega)
    simp [e, h]
/-! ### A byte more in four parts -/
theorem pow256 (i : Nat) : (256 : Nat) ^ i = 2 ^ (64 * (i / 8)) * 2 ^ (8 * (i % 8)) := by
  rw [← Nat.pow_add, show (256 : Nat) = 2 ^ 8 from rfl, ← Nat.pow_mul]; congr 1; omega
theorem wd_top {m i : Nat} (hm : m < 256 ^ i) : wd m (i / 8) < 2 ^ (8 * (i % 8)) := by
  refine Nat.lt_of_le_of_lt (Nat.mod_le _ _) ((Nat.div_lt_iff_lt_mul (Nat.pow_pos (by decide))).2 ?_)
  rw [Nat.mul_comm, ← pow256]; exact hm
theorem wd_high {m i k : Nat} (hm : m < 256 ^ i) (h : i ≤ 8 * k) : wd m k = 0 := by
  simp only [wd]
  rw [Nat.div_eq_of_lt (Nat.lt_of_lt_of_le hm ?_)]
  rw [show (256 : Nat) = 2 ^ 8 from rfl, ← Nat.pow_mul]; exact Nat.pow_le_pow_right (by decide) (by omega)
theorem q4_put (m i x : Nat) (hm : m < 256 ^ i) (hx : x < 256) : (q4 m).set (i / 8) (.int .u64 (wd m (i / 8) + x * 2 ^ (8 * (i % 8)) : Nat)) = q4 (m + x * 256 ^ i) := by
  rw [q4_arr, arr_set, q4_arr]
  refine arr_ext fun k hk => ?_
  simp only [upd]
  have hr : i % 8 < 8 := Nat.mod_lt _ (by decide)
  have hs : m + x * 256 ^ i < 256 ^ (i + 1) := by
    rw [Nat.pow_succ]
    have := Nat.mul_le_mul_right (256 ^ i) (Nat.le_of_lt_succ hx)
    omega
  by_cases h : k = i / 8
  · subst h
    rw [if_pos rfl]
    have ht := wd_top hm
    have e : (m + x * 256 ^ i) / 2 ^ (64 * (i / 8)) = m / 2 ^ (64 * (i / 8)) + x * 2 ^ (8 * (i % 8)) := by
      rw [pow256, Nat.mul_left_comm, Nat.add_mul_div_left _ _ (Nat.pow_pos (by decide))]
    have e2 : m / 2 ^ (64 * (i / 8)) < 2 ^ (8 * (i % 8)) := by
      refine (Nat.div_lt_iff_lt_mul (Nat.pow_pos (by decide))).2 ?_
      rw [Nat.mul_comm, ← pow256]; exact hm
    have e3 : x * 2 ^ (8 * (i % 8)) + 2 ^ (8 * (i % 8)) ≤ 2 ^ 64 := by
      rw [← Nat.succ_mul]
      refine Nat.le_trans (Nat.mul_le_mul_right _ hx) ?_
      rw [show (256 : Nat) = 2 ^ 8 from rfl, ← Nat.pow_add]
      exact Nat.pow_le_pow_right (by decide) (by omega)
    have e4 : wd m (i / 8) = m / 2 ^ (64 * (i / 8)) := Nat.mod_eq_of_lt (by omega)
    rw [e4]
    simp only [wd, e]
    rw [Nat.mod_eq_of_lt (show m / 2 ^ (64 * (i / 8)) + x * 2 ^ (8 * (i % 8)) < 2 ^ 64 by omega)]
  · rw [if_neg h]
    by_cases h2 : k < i / 8
    · simp only [wd]
      have e : x * 256 ^ i = 2 ^ (64 * k) * (2 ^ 64 * (x * 2 ^ (64 * (i / 8 - k - 1)) * 2 ^ (8 * (i % 8)))) := by
        have e5 : (2 : Nat) ^ (64 * (i / 8)) = 2 ^ (64 * k) * (2 ^ 64 * 2 ^ (64 * (i / 8 - k - 1))) := by
          rw [← Nat.pow_add, ← Nat.pow_add]; congr 1; omega
        rw [pow256, e5]
        simp only [Nat.mul_assoc, Nat.mul_left_comm x]
      rw [e, Nat.add_mul_div_left _ _ (Nat.pow_pos (by decide)), Nat.add_mul_mod_self_left]
    · rw [wd_high hm (by omega), wd_high hs (by omega)]
/-! ### Arrays that are filled -/
def byt (n k : Nat) : Nat := n / 256 ^ k % 256
def fill (i : Nat) (g : Nat → Nat) : Nat → Nat := fun k => if k < i then g k else 0
theorem fill_zero (g : Nat → Nat) : fill 0 g = fun _ => 0 := by funext k; simp [fill]
theorem upd_fill (i : Nat) (g : Nat → Nat) : upd (fill i g) i (g i) = fill (i + 1) g := by
  funext k
  simp only [upd, fill]
  by_cases h : k = i
  · subst h; simp
  · by_cases h2 : k < i
    · simp [h, h2, Nat.lt_succ_of_lt h2]
    · simp [h, h2, show ¬ k < i + 1 by omega]
theorem arr_fill (K : IntKind) (m : Nat) (g : Nat → Nat) : arr K m (fill m g) = arr K m g := arr_ext fun k hk => by simp [fill, hk]
theorem byL_byt (m n : Nat) : arr .u8 m (byt n) = (byL m n).map bv := (byL_arr m n).symm
theorem arr_zero32 : ([.int .u8 0, .int .u8 0, .int .u8 0, .int .u8 0, .int .u8 0, .int .u8 0, .int .u8 0, .int .u8 0, .int .u8 0, .int .u8 0, .int .u8 0, .int .u8 0, .int .u8 0, .int .u8 0, .int .u8 0, .int .u8 0, .int .u8 0, .int .u8 0, .int .u8 0, .int .u8 0, .int .u8 0, .int .u8 0, .int .u8 0, .int .u8 0, .int .u8 0, .int .u8 0, .int .u8 0, .int .u8 0, .int .u8 0, .int .u8 0, .int .u8 0, .int .u8 0] : List AV) = arr .u8 32 fun _ => 0 := by kernel_rfl
/-! ### Arguments of laws -/
section
variable {P : Program} {m : Nat} {t e : TypeId} {a : AV} {xs : List AV}
theorem fit_byteList (he : P.underlying e = some (.int .u8)) : ∀ {yss : List (List AV)}, (∀ y ∈ yss, Fit P (m + 1) e y) → ∃ l : List UInt8, yss.flatten = l.map bv ∧ l.length = yss.length
  | [], _ => ⟨[], rfl, rfl⟩
  | y :: yss, h => by
    obtain ⟨b, rfl⟩ := fit_u8 he (h y (by simp))
    obtain ⟨l, g1, g2⟩ := fit_byteList he (yss := yss) (fun y hy => h y (by simp [hy]))
    exact ⟨b :: l, by simp [g1], by simp [g2]⟩
theorem arg_bytesA {k : Nat} (h : P.underlying t = some (.array k e)) (he : P.underlying e = some (.int .u8)) (hf : ArgFit P (m + 2) t a) : ∃ l : List UInt8, l.length = k ∧ a = .agg (l.map bv) := by
  obtain ⟨yss, rfl, h1, h2⟩ := arg_array h hf
  obtain ⟨l, g1, g2⟩ := fit_byteList he h2
  exact ⟨l, by omega, by rw [g1]⟩
end
theorem arr_zero64 : ([.int .u8 0, .int .u8 0, .int .u8 0, .int .u8 0, .int .u8 0, .int .u8 0, .int .u8 0, .int .u8 0, .int .u8 0, .int .u8 0, .int .u8 0, .int .u8 0, .int .u8 0, .int .u8 0, .int .u8 0, .int .u8 0, .int .u8 0, .int .u8 0, .int .u8 0, .int .u8 0, .int .u8 0, .int .u8 0, .int .u8 0, .int .u8 0, .int .u8 0, .int .u8 0, .int .u8 0, .int .u8 0, .int .u8 0, .int .u8 0, .int .u8 0, .int .u8 0, .int .u8 0, .int .u8 0, .int .u8 0, .int .u8 0, .int .u8 0, .int .u8 0, .int .u8 0, .int .u8 0, .int .u8 0, .int .u8 0, .int .u8 0, .int .u8 0, .int .u8 0, .int .u8 0, .int .u8 0, .int .u8 0, .int .u8 0, .int .u8 0, .int .u8 0, .int .u8 0, .int .u8 0, .int .u8 0, .int .u8 0, .int .u8 0, .int .u8 0, .int .u8 0, .int .u8 0, .int .u8 0, .int .u8 0, .int .u8 0, .int .u8 0, .int .u8 0] : List AV) = arr .u8 64 fun _ => 0 := by kernel_rfl
end Go.Fw
