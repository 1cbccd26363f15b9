/-
  Numbers of four times sixty-four bits, as cells; their bits and bytes.
-/
import Derived.Test.YthgibibeoapfbaaFwC
set_option linter.unusedSimpArgs false
set_option linter.unnecessarySimpa false
set_option linter.unusedVariables false
set_option linter.unusedSectionVars false
namespace Go.Fw
/-- Sixty-four bits of a number. -/
def wd (n k : Nat) : Nat := n / 2 ^ (64 * k) % 2 ^ 64
def q4 (n : Nat) : List AV := [.int .u64 (wd n 0 : Nat), .int .u64 (wd n 1 : Nat), .int .u64 (wd n 2 : Nat), .int .u64 (wd n 3 : Nat)]
theorem wd_lt (n k : Nat) : wd n k < 2 ^ 64 := Nat.mod_lt _ (by decide)
theorem wd0 (n : Nat) : wd n 0 = n % 18446744073709551616 := by simp [wd]
theorem wd1 (n : Nat) : wd n 1 = n / 18446744073709551616 % 18446744073709551616 := rfl
theorem wd2 (n : Nat) : wd n 2 = n / 340282366920938463463374607431768211456 % 18446744073709551616 := rfl
theorem wd3 (n : Nat) : wd n 3 = n / 6277101735386680763835789423207666416102355444464034512896 % 18446744073709551616 := rfl
theorem q4_at {n k : Nat} (h : k < 4) : (q4 n)[k]? = some (.int .u64 (wd n k : Nat)) := by
  match k, h with
  | 0, _ => rfl
  | 1, _ => rfl
  | 2, _ => rfl
  | 3, _ => rfl
/-- A number out of its parts. -/
def mk4 (a b c d : Nat) : Nat := a + 18446744073709551616 * b + 340282366920938463463374607431768211456 * c + 6277101735386680763835789423207666416102355444464034512896 * d
theorem mk4_lt {a b c d : Nat} (ha : a < 2 ^ 64) (hb : b < 2 ^ 64) (hc : c < 2 ^ 64) (hd : d < 2 ^ 64) : mk4 a b c d < 2 ^ 256 := by
  simp only [mk4]; omega
theorem wd_mk0 {a b c d : Nat} (ha : a < 2 ^ 64) : wd (mk4 a b c d) 0 = a := by rw [wd0]; simp only [mk4]; omega
theorem wd_mk1 {a b c d : Nat} (ha : a < 2 ^ 64) (hb : b < 2 ^ 64) : wd (mk4 a b c d) 1 = b := by rw [wd1]; simp only [mk4]; omega
theorem wd_mk2 {a b c d : Nat} (ha : a < 2 ^ 64) (hb : b < 2 ^ 64) (hc : c < 2 ^ 64) : wd (mk4 a b c d) 2 = c := by rw [wd2]; simp only [mk4]; omega
theorem wd_mk3 {a b c d : Nat} (ha : a < 2 ^ 64) (hb : b < 2 ^ 64) (hc : c < 2 ^ 64) (hd : d < 2 ^ 64) : wd (mk4 a b c d) 3 = d := by rw [wd3]; simp only [mk4]; omega
theorem q4_mk {a b c d : Nat} (ha : a < 2 ^ 64) (hb : b < 2 ^ 64) (hc : c < 2 ^ 64) (hd : d < 2 ^ 64) : q4 (mk4 a b c d) = [.int .u64 (a : Nat), .int .u64 (b : Nat), .int .u64 (c : Nat), .int .u64 (d : Nat)] := by
  simp only [q4, wd_mk0 ha, wd_mk1 ha hb, wd_mk2 ha hb hc, wd_mk3 ha hb hc hd]
theorem mk4_wd {n : Nat} (h : n < 2 ^ 256) : mk4 (wd n 0) (wd n 1) (wd n 2) (wd n 3) = n := by
  rw [wd0, wd1, wd2, wd3]; simp only [mk4]; omega
theorem q4_inj {m n : Nat} (hm : m < 2 ^ 256) (hn : n < 2 ^ 256) (h : q4 m = q4 n) : m = n := by
  simp only [q4, List.cons.injEq, AV.int.injEq, true_and, and_true, Int.natCast_inj] at h
  rw [← mk4_wd hm, ← mk4_wd hn, h.1, h.2.1, h.2.2.1, h.2.2.2]
theorem ints_q4 {m n : Nat} (hm : m < 2 ^ 256) (hn : n < 2 ^ 256) : (ints (q4 m) = ints (q4 n)) = (m = n) := by
  refine propext ⟨fun h => q4_inj hm hn ?_, fun h => by rw [h]⟩
  simp only [q4, ints, List.cons.injEq, and_true] at h
  simp only [q4, h.1, h.2.1, h.2.2.1, h.2.2.2]
theorem hasK_q4 (n : Nat) : hasK [.u64, .u64, .u64, .u64] (q4 n) = true := by simp [q4, hasK]
theorem q4_zero : q4 0 = [.int .u64 0, .int .u64 0, .int .u64 0, .int .u64 0] := rfl
/-! ### Bits -/
theorem wd_bit (n k j : Nat) (hj : j < 64) : wd n k / 2 ^ j % 2 = n / 2 ^ (64 * k + j) % 2 := by
  simp only [wd]
  rw [Nat.pow_add, ← Nat.div_div_eq_div_mul]
  generalize n / 2 ^ (64 * k) = m
  have h : m % 2 ^ 64 / 2 ^ j % 2 = m / 2 ^ j % 2 := by
    have e : (2 : Nat) ^ 64 = 2 ^ j * 2 ^ (64 - j) := by rw [← Nat.pow_add]; congr 1; omega
    rw [e, Nat.mod_mul_right_div_self]
    exact Nat.mod_mod_of_dvd _ (Nat.dvd_trans (by simp) (Nat.pow_dvd_pow 2 (by omega : 1 ≤ 64 - j)))
  exact h
/-- A bit of a number, by its place. -/
theorem wd_bit' (n i : Nat) : wd n (i / 64) / 2 ^ (i % 64) % 2 = n / 2 ^ i % 2 := by
  rw [wd_bit n _ _ (Nat.mod_lt _ (by decide))]
  congr 3; omega
/-- A byte of a number, by its place. -/
theorem wd_byte (n i : Nat) : wd n (i / 8) / 2 ^ (8 * (i % 8)) % 256 = n / 256 ^ i % 256 := by
  simp only [wd]
  have h1 : i % 8 < 8 := Nat.mod_lt _ (by decide)
  have h2 : (256 : Nat) ^ i = 2 ^ (64 * (i / 8)) * 2 ^ (8 * (i % 8)) := by
    rw [← Nat.pow_add, show (256 : Nat) = 2 ^ 8 from rfl, ← Nat.pow_mul]; congr 1; omega
  rw [h2, ← Nat.div_div_eq_div_mul]
  generalize n / 2 ^ (64 * (i / 8)) = m
  have e : (2 : Nat) ^ 64 = 2 ^ (8 * (i % 8)) * 2 ^ (64 - 8 * (i % 8)) := by rw [← Nat.pow_add]; congr 1; omega
  rw [e, Nat.mod_mul_right_div_self]
  refine Nat.mod_mod_of_dvd _ ?_
  exact (show (256 : Nat) = 2 ^ 8 from rfl) ▸ Nat.pow_dvd_pow 2 (by omega)
/-! ### Bytes -/
/-- So many bytes of a number, the lowest first. -/
def byL (n s : Nat) : List UInt8 := (List.range n).map fun i => UInt8.ofNat (s / 256 ^ i)
/-- The number of bytes, the lowest first. -/
def byN : List UInt8 → Nat
  | [] => 0
  | x :: l => x.toNat + 256 * byN l
theorem byL_len (n s : Nat) : (byL n s).length = n := by simp [byL]
theorem byL_succ (n s : Nat) : byL (n + 1) s = byL n s ++ [UInt8.ofNat (s / 256 ^ n)] := by simp [byL, List.range_succ]
theorem byL_get {n s i : Nat} (h : i < n) : (byL n s)[i]? = some (UInt8.ofNat (s / 256 ^ i)) := by simp [byL, h]
theorem byN_lt : ∀ (l : List UInt8), byN l < 256 ^ l.length
  | [] => by simp [byN]
  | x :: l => by
    have := byN_lt l
    have := x.toNat_lt
    simp only [byN, List.length_cons, Nat.pow_succ]
    omega
theorem byN_append : ∀ (a b : List UInt8), byN (a ++ b) = byN a + 256 ^ a.length * byN b
  | [], b => by simp [byN]
  | x :: a, b => by
    simp only [List.cons_append, byN, byN_append a b, List.length_cons, Nat.pow_succ]
    rw [Nat.mul_add, Nat.add_assoc, Nat.mul_comm (256 ^ a.length) 256, Nat.mul_assoc]
theorem byN_take (l : List UInt8) (i : Nat) (h : i < l.length) : byN (l.take (i + 1)) = byN (l.take i) + l[i].toNat * 256 ^ i := by
  rw [List.take_succ_eq_append_getElem h, byN_append, List.length_take, Nat.min_eq_left (by omega)]
  simp [byN, Nat.mul_comm]
theorem byN_drop (l : List UInt8) (i : Nat) (h : i < l.length) : byN (l.drop i) = l[i].toNat + 256 * byN (l.drop (i + 1)) := by
  rw [List.drop_eq_getElem_cons h]; rfl
/-- A byte of the number of bytes. -/
theorem byN_div : ∀ (l : List UInt8) (i : Nat), byN l / 256 ^ i = byN (l.drop i)
  | [], i => by simp [byN]
  | x :: l, 0 => by simp
  | x :: l, i + 1 => by
    rw [List.drop_succ_cons, ← byN_div l i, Nat.pow_succ, Nat.mul_comm, ← Nat.div_div_eq_div_mul]
    congr 1
    have := x.toNat_lt
    simp only [byN]; omega
theorem byN_byte (l : List UInt8) (i : Nat) (h : i < l.length) : byN l / 256 ^ i % 256 = l[i].toNat := by
  rw [byN_div, byN_drop l i h]
  have := l[i].toNat_lt
  omega
theorem byL_byN (l : List UInt8) : byL l.length (byN l) = l := by
  refine List.ext_getElem (by simp [byL]) fun i h1 h2 => ?_
  simp only [byL, List.getElem_map, List.getElem_range]
  have h := byN_byte l i h2
  have e := UInt8.toNat_ofNat' (n := byN l / 256 ^ i)
  rw [← UInt8.toNat_inj, e]
  exact h
theorem byN_byL (n s : Nat) : byN (byL n s) = s % 256 ^ n := by
  induction n with
  | zero => simp [byL, byN, Nat.mod_one]
  | succ n ih =>
    rw [byL_succ, byN_append, ih, byL_len]
    simp only [byN, Nat.mul_zero, Nat.add_zero]
    have e : (UInt8.ofNat (s / 256 ^ n)).toNat = s / 256 ^ n % 256 := UInt8.toNat_ofNat'
    rw [e, Nat.pow_succ, Nat.mod_mul]
/-- A bit of bytes. -/
theorem byN_bit (l : List UInt8) (i : Nat) (h : i / 8 < l.length) : l[i / 8].toNat / 2 ^ (i % 8) % 2 = byN l / 2 ^ i % 2 := by
  have e : (2 : Nat) ^ i = 256 ^ (i / 8) * 2 ^ (i % 8) := by
    rw [show (256 : Nat) = 2 ^ 8 from rfl, ← Nat.pow_mul, ← Nat.pow_add]; congr 1; omega
  rw [e, ← Nat.div_div_eq_div_mul, byN_div, byN_drop l _ h]
  have h1 : i % 8 < 8 := Nat.mod_lt _ (by decide)
  generalize l[i / 8].toNat = x
  generalize byN (l.drop (i / 8 + 1)) = y
  have e2 : 256 * y = 2 ^ (i % 8) * (2 ^ (8 - i % 8) * y) := by
    rw [← Nat.mul_assoc, ← Nat.pow_add]; congr 1; rw [show (256 : Nat) = 2 ^ 8 from rfl]; congr 1; omega
  rw [e2, Nat.add_mul_div_left _ _ (Nat.pow_pos (by decide))]
  have e3 : 2 ^ (8 - i % 8) * y = 2 * (2 ^ (7 - i % 8) * y) := by
    rw [← Nat.mul_assoc, ← Nat.pow_succ']; congr 2; omega
  rw [e3, Nat.add_mul_mod_self_left]
/-! ### Operations on numbers that are not below 0 -/
theorem wrap_u {k : IntKind} (hk : k.signed = false) (n : Nat) : k.wrap (n : Int) = (n % 2 ^ k.bits : Nat) := by
  unfold IntKind.wrap
  simp [hk]
theorem wrapu64 (n : Nat) : IntKind.u64.wrap (n : Int) = (n % 18446744073709551616 : Nat) := wrap_u rfl n
theorem wrapu8 (n : Nat) : IntKind.u8.wrap (n : Int) = (n % 256 : Nat) := wrap_u rfl n
theorem bv_ofInt_nat (n m : Nat) : (BitVec.ofInt n (m : Int)).toNat = m % 2 ^ n := by simp [BitVec.toNat_ofInt]
theorem bitI_and {k : IntKind} (hk : k.signed = false) {a b : Nat} (ha : a < 2 ^ k.bits) (hb : b < 2 ^ k.bits) : bitI .and k a b = (a &&& b : Nat) := by
  simp only [bitI, BitVec.toNat_and, bv_ofInt_nat, Nat.mod_eq_of_lt ha, Nat.mod_eq_of_lt hb, wrap_u hk]
  rw [Nat.mod_eq_of_lt (Nat.and_lt_two_pow _ hb)]
theorem bitI_or {k : IntKind} (hk : k.signed = false) {a b : Nat} (ha : a < 2 ^ k.bits) (hb : b < 2 ^ k.bits) : bitI .or k a b = (a ||| b : Nat) := by
  simp only [bitI, BitVec.toNat_or, bv_ofInt_nat, Nat.mod_eq_of_lt ha, Nat.mod_eq_of_lt hb, wrap_u hk]
  rw [Nat.mod_eq_of_lt (Nat.or_lt_two_pow ha hb)]
/-- The lowest bit. -/
theorem and1_u64 {a : Nat} (ha : a < 2 ^ 64) : bitI .and .u64 a 1 = (a % 2 : Nat) := by
  have h := bitI_and (k := .u64) rfl (a := a) (b := 1) ha (by decide)
  rw [Nat.and_one_is_mod] at h
  exact h
theorem and1_u8 {a : Nat} (ha : a < 2 ^ 8) : bitI .and .u8 a 1 = (a % 2 : Nat) := by
  have h := bitI_and (k := .u8) rfl (a := a) (b := 1) ha (by decide)
  rw [Nat.and_one_is_mod] at h
  exact h
/-- A shift to the right. -/
theorem shr_nat (a s : Nat) : (a : Int).fdiv (2 ^ s) = (a / 2 ^ s : Nat) := by
  have h : ((2 : Int) ^ s) = ((2 ^ s : Nat) : Int) := by simp
  rw [h, Int.fdiv_eq_ediv_of_nonneg _ (Int.natCast_nonneg _)]
  rfl
/-- A shift to the left, below what is there. -/
theorem or_shl (a b s : Nat) (h : a < 2 ^ s) : a ||| (b * 2 ^ s) = a + b * 2 ^ s := by
  rw [Nat.or_comm, ← Nat.shiftLeft_eq, ← Nat.shiftLeft_add_eq_or_of_lt h, Nat.add_comm]
end Go.Fw
namespace Go.Fw
@[simp] theorem cleanL_q4 (n : Nat) : cleanL (q4 n) = true := by simp [q4, cleanL, AV.clean]
@[simp] theorem ltL_q4 (m n : Nat) : ltL m (q4 n) = true := by simp [q4, ltL, AV.ltI]
@[simp] theorem idsL_q4 (q : Nat → Bool) (n : Nat) : idsL q (q4 n) = true := by simp [q4, idsL, AV.ids]
@[simp] theorem subL_q4 (s : Nat → Nat → Nat → Nat → Option Nat → AV) (p : Nat → Nat → AV) (n : Nat) : subL s p (q4 n) = q4 n := by simp [q4, subL, AV.sub]
@[simp] theorem q4_length (n : Nat) : (q4 n).length = 4 := by simp [q4]
@[simp] theorem take4_q4 (n : Nat) : (q4 n).take 4 = q4 n := by simp [q4]
@[simp] theorem hasK4_q4 (n : Nat) : hasK [.u64, .u64, .u64, .u64] (q4 n) = true := by simp [q4, hasK]
@[simp] theorem q4_getElem (n k : Nat) (h : k < (q4 n).length) : (q4 n)[k] = .int .u64 (wd n k : Nat) := by
  have e := q4_at (n := n) (k := k) (by simpa using h)
  rw [List.getElem?_eq_getElem h] at e
  exact Option.some.inj e
section
variable {P : Program} {L : Nat} {k : List It} {e : Env} {H : Heap} {Q : Post} {p : Pend} {d : Option Nat} {pos : Nat} {ks chk : List Nat} {l : List (DOper × List Nat)}
theorem WS_at_q4 (n i : Nat) : WS P L (atF (q4 n) i) d ks l p e H k Q ↔ i < 4 ∧ WR P L l p ((e.setO d (.int .u64 (wd n i : Nat))).dels ks) H k Q := by
  by_cases h : i < 4
  · rw [show atF (q4 n) i = ok1 (.int .u64 (wd n i : Nat)) by unfold atF; rw [q4_at h]]; simp [h, WS, ok1]
  · have hn : (q4 n)[i]? = none := List.getElem?_eq_none (by simp; omega)
    simp [atF, hn, h, WS]
theorem WSr_at_q4 (n i : Nat) (o : IOp) : WSr P L (atF (q4 n) i) true o pos d ks l p e H k Q ↔ i < 4 ∧ WR P L l ((pos, o, e, (.int .u64 (wd n i : Nat))) :: p) ((e.setO d (.int .u64 (wd n i : Nat))).dels ks) H k Q := by
  by_cases h : i < 4
  · rw [show atF (q4 n) i = ok1 (.int .u64 (wd n i : Nat)) by unfold atF; rw [q4_at h]]; simp [h, WSr, ok1]
  · have hn : (q4 n)[i]? = none := List.getElem?_eq_none (by simp; omega)
    simp [atF, hn, h, WSr]
/-- Cells that are told one by one. -/
theorem WS_at_map {α : Type} [Inhabited α] (f : α → AV) (xs : List α) (i : Nat) : WS P L (atF (xs.map f) i) d ks l p e H k Q ↔ i < xs.length ∧ WR P L l p ((e.setO d (f (xs.getD i default))).dels ks) H k Q := by
  by_cases h : i < xs.length
  · simp [atF, h, WS, ok1]
  · simp [atF, h, WS]
theorem WSr_at_map {α : Type} [Inhabited α] (f : α → AV) (xs : List α) (i : Nat) (o : IOp) : WSr P L (atF (xs.map f) i) true o pos d ks l p e H k Q ↔ i < xs.length ∧ WR P L l ((pos, o, e, (f (xs.getD i default))) :: p) ((e.setO d (f (xs.getD i default))).dels ks) H k Q := by
  by_cases h : i < xs.length
  · simp [atF, h, WSr, ok1]
  · simp [atF, h, WSr]
end
/-! ### Order -/
theorem lt_div {x y m : Nat} (h : x / m ≠ y / m) : (x < y) = (x / m < y / m) := by
  refine propext ⟨fun hl => Nat.lt_of_le_of_ne (Nat.div_le_div_right (Nat.le_of_lt hl)) h, fun hl => ?_⟩
  apply Classical.byContradiction
  intro hn
  exact absurd (Nat.div_le_div_right (c := m) (Nat.le_of_not_lt hn)) (Nat.not_le_of_lt hl)
theorem wd_div (n k : Nat) : n / 2 ^ (64 * k) = wd n k + 2 ^ 64 * (n / 2 ^ (64 * (k + 1))) := by
  have h := Nat.mod_add_div (n / 2 ^ (64 * k)) (2 ^ 64)
  rw [Nat.div_div_eq_div_mul, ← Nat.pow_add] at h
  exact h.symm
/-- Parts that differ tell the order. -/
theorem wd_cmp {a b k : Nat} (h : a / 2 ^ (64 * (k + 1)) = b / 2 ^ (64 * (k + 1))) (hn : wd a k ≠ wd b k) : (a < b) = (wd a k < wd b k) := by
  have h1 := wd_div a k
  have h2 := wd_div b k
  rw [lt_div (m := 2 ^ (64 * k)) (by omega), h1, h2, h]
  exact propext ⟨fun h => by omega, fun h => by omega⟩
theorem wd_eq {a b k : Nat} (h : a / 2 ^ (64 * (k + 1)) = b / 2 ^ (64 * (k + 1))) (hn : wd a k = wd b k) : a / 2 ^ (64 * k) = b / 2 ^ (64 * k) := by
  rw [wd_div a k, wd_div b k, h, hn]
end Go.Fw
namespace Go.Fw
/-! ### Sums and differences, part by part -/
def car (a b i : Nat) : Nat := (a % 2 ^ (64 * i) + b % 2 ^ (64 * i)) / 2 ^ (64 * i)
def bor (a b i : Nat) : Nat := if a % 2 ^ (64 * i) < b % 2 ^ (64 * i) then 1 else 0
theorem car_zero (a b : Nat) : car a b 0 = 0 := by simp [car, Nat.mod_one]
theorem bor_zero (a b : Nat) : bor a b 0 = 0 := by simp [bor, Nat.mod_one]
theorem car_le (a b i : Nat) : car a b i ≤ 1 := by
  simp only [car]
  have hp : 0 < 2 ^ (64 * i) := Nat.pow_pos (by decide)
  have h1 := Nat.mod_lt a hp
  have h2 := Nat.mod_lt b hp
  exact Nat.le_of_lt_succ ((Nat.div_lt_iff_lt_mul hp).2 (by omega))
theorem bor_le (a b i : Nat) : bor a b i ≤ 1 := by simp only [bor]; split <;> omega
theorem pow_next (i : Nat) : 2 ^ (64 * (i + 1)) = 2 ^ (64 * i) * 18446744073709551616 := by rw [Nat.mul_add, Nat.pow_add]
theorem mod_next (a i : Nat) : a % 2 ^ (64 * (i + 1)) = a % 2 ^ (64 * i) + 2 ^ (64 * i) * wd a i := by
  rw [pow_next, Nat.mod_mul]; rfl
theorem wd_add (a b i : Nat) : wd (a + b) i = (wd a i + wd b i + car a b i) % 18446744073709551616 := by
  have hp : 0 < 2 ^ (64 * i) := Nat.pow_pos (by decide)
  have e : (a + b) / 2 ^ (64 * i) = a / 2 ^ (64 * i) + b / 2 ^ (64 * i) + car a b i := by
    simp only [car]
    generalize 2 ^ (64 * i) = m at *
    have h1 := Nat.mod_add_div a m
    have h2 := Nat.mod_add_div b m
    have h3 : a + b = (a % m + b % m) + m * (a / m + b / m) := by rw [Nat.mul_add]; omega
    rw [h3, Nat.add_mul_div_left _ _ hp]
    omega
  simp only [wd, e]
  omega
theorem car_succ (a b i : Nat) : (wd a i + wd b i + car a b i) / 18446744073709551616 = car a b (i + 1) := by
  have hp : 0 < 2 ^ (64 * i) := Nat.pow_pos (by decide)
  simp only [car, mod_next]
  rw [pow_next, ← Nat.div_div_eq_div_mul]
  congr 1
  generalize 2 ^ (64 * i) = m at *
  have h3 : a % m + m * wd a i + (b % m + m * wd b i) = (a % m + b % m) + m * (wd a i + wd b i) := by rw [Nat.mul_add]; omega
  rw [h3, Nat.add_mul_div_left _ _ hp]
  omega
theorem lex_lt {m x y a b : Nat} (hx : x < m) (hy : y < m) : (x + m * a < y + m * b) = (a < b + (if x < y then 1 else 0)) := by
  refine propext ?_
  rcases Nat.lt_trichotomy a b with h | h | h
  · obtain ⟨c, rfl⟩ := Nat.exists_eq_add_of_lt h
    have e : m * (a + c + 1) = m * a + m * c + m := by rw [Nat.mul_add, Nat.mul_add, Nat.mul_one]
    have := Nat.zero_le (m * c)
    refine ⟨fun _ => by omega, fun _ => by omega⟩
  · subst h
    by_cases hxy : x < y
    · simp [hxy]
    · simp [hxy]
  · obtain ⟨c, rfl⟩ := Nat.exists_eq_add_of_lt h
    have e : m * (b + c + 1) = m * b + m * c + m := by rw [Nat.mul_add, Nat.mul_add, Nat.mul_one]
    have := Nat.zero_le (m * c)
    refine ⟨fun _ => by omega, fun h => by split at h <;> omega⟩
theorem bor_succ (a b i : Nat) : (if wd a i < wd b i + bor a b i then 1 else 0) = bor a b (i + 1) := by
  have hp : 0 < 2 ^ (64 * i) := Nat.pow_pos (by decide)
  have h : (a % 2 ^ (64 * i) + 2 ^ (64 * i) * wd a i < b % 2 ^ (64 * i) + 2 ^ (64 * i) * wd b i) = (wd a i < wd b i + bor a b i) := lex_lt (Nat.mod_lt a hp) (Nat.mod_lt b hp)
  show _ = if a % 2 ^ (64 * (i + 1)) < b % 2 ^ (64 * (i + 1)) then 1 else 0
  simp only [mod_next, h]
theorem wd_sub (a b i : Nat) (h : b ≤ a) : (wd a i + 18446744073709551616 - wd b i - bor a b i) % 18446744073709551616 = wd (a - b) i := by
  have hp : 0 < 2 ^ (64 * i) := Nat.pow_pos (by decide)
  have e : (a - b) / 2 ^ (64 * i) = a / 2 ^ (64 * i) - b / 2 ^ (64 * i) - bor a b i ∧ b / 2 ^ (64 * i) + bor a b i ≤ a / 2 ^ (64 * i) := by
    simp only [bor]
    generalize 2 ^ (64 * i) = m at *
    have h1 := Nat.mod_add_div a m
    have h2 := Nat.mod_add_div b m
    have l1 := Nat.mod_lt a hp
    have l2 := Nat.mod_lt b hp
    have hl : ¬ (a % m + m * (a / m) < b % m + m * (b / m)) := by omega
    rw [lex_lt l1 l2] at hl
    generalize a % m = x at *
    generalize b % m = y at *
    obtain ⟨c, hc⟩ := Nat.exists_eq_add_of_le (Nat.le_of_not_lt hl)
    rw [hc] at h1 ⊢
    refine ⟨?_, by omega⟩
    have e2 : m * (b / m + (if x < y then 1 else 0) + c) = m * (b / m) + (if x < y then m else 0) + m * c := by
      rw [Nat.mul_add, Nat.mul_add]; split <;> simp
    rw [e2] at h1
    have e3 : a - b = (x + (if x < y then m else 0) - y) + m * c := by split at h1 <;> rename_i hxy <;> simp only [hxy, if_true, if_false] <;> omega
    rw [e3, Nat.add_mul_div_left _ _ hp, Nat.div_eq_of_lt (by split <;> omega)]
    omega
  have hb := bor_le a b i
  simp only [wd, e.1]
  omega
/-- Behind the first parts of one number those of another. -/
def mx (i s n : Nat) : List AV := [.int .u64 (if 0 < i then wd s 0 else wd n 0 : Nat), .int .u64 (if 1 < i then wd s 1 else wd n 1 : Nat), .int .u64 (if 2 < i then wd s 2 else wd n 2 : Nat), .int .u64 (if 3 < i then wd s 3 else wd n 3 : Nat)]
theorem mx_zero (s n : Nat) : mx 0 s n = q4 n := rfl
theorem mx_four (s n : Nat) : mx 4 s n = q4 s := rfl
theorem mx_at {i s n k : Nat} (h : k < 4) : (mx i s n)[k]? = some (.int .u64 (if k < i then wd s k else wd n k : Nat)) := by
  match k, h with
  | 0, _ => rfl
  | 1, _ => rfl
  | 2, _ => rfl
  | 3, _ => rfl
@[simp] theorem mx_length (i s n : Nat) : (mx i s n).length = 4 := by simp [mx]
@[simp] theorem cleanL_mx (i s n : Nat) : cleanL (mx i s n) = true := by simp [mx, cleanL, AV.clean]
@[simp] theorem ltL_mx (m i s n : Nat) : ltL m (mx i s n) = true := by simp [mx, ltL, AV.ltI]
theorem mx_set {i : Nat} (s n : Nat) (h : i < 4) : splice (mx i s n) i [.int .u64 (wd s i : Nat)] = mx (i + 1) s n := by
  match i, h with
  | 0, _ => rfl
  | 1, _ => rfl
  | 2, _ => rfl
  | 3, _ => rfl
theorem mx_set' {i : Nat} (s n : Nat) (h : i < 4) : (mx i s n).set i (.int .u64 (wd s i : Nat)) = mx (i + 1) s n := mx_set s n h
section
variable {P : Program} {L : Nat} {k : List It} {e : Env} {H : Heap} {Q : Post} {p : Pend} {d : Option Nat} {pos : Nat} {ks chk : List Nat} {l : List (DOper × List Nat)}
theorem WS_at_mx (s n i : Nat) : WS P L (atF (mx i s n) i) d ks l p e H k Q ↔ i < 4 ∧ WR P L l p ((e.setO d (.int .u64 (wd n i : Nat))).dels ks) H k Q := by
  by_cases h : i < 4
  · rw [show atF (mx i s n) i = ok1 (.int .u64 (wd n i : Nat)) by unfold atF; rw [mx_at h, if_neg (Nat.lt_irrefl i)]]; simp [h, WS, ok1]
  · have hn : (mx i s n)[i]? = none := List.getElem?_eq_none (by simp; omega)
    simp [atF, hn, h, WS]
end
/-! ### Twice a number, and a bit -/
/-- All cells are written. -/
theorem splice_full {xs vs : List AV} (h : vs.length = xs.length) : splice xs 0 vs = vs := by
  rw [splice_take_drop _ _ _ (by omega)]; simp [h]
end Go.Fw
