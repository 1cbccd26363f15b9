/-
  Plain facts, with no program in sight, part 1.
-/
import Derived.Test.YthgibibeoapfbaaGreatFwC
set_option linter.unusedSimpArgs false
set_option linter.unnecessarySimpa false
set_option linter.unusedVariables false
set_option linter.unusedSectionVars false
namespace Go.Fw
def wd (n k : Nat) : Nat := n / 2 ^ (64 * k) % 2 ^ 64
def q4 (n : Nat) : List AV := [.int .u64 (wd n 0 : Nat), .int .u64 (wd n 1 : Nat), .int .u64 (wd n 2 : Nat), .int .u64 (wd n 3 : Nat)]
theorem wd_lt (n k : Nat) : wd n k < 2 ^ 64 := Nat.mod_lt _ (by decide)
theorem wd0 (n : Nat) : wd n 0 = n % 18446744073709551616 := by simp [wd]
theorem wd1 (n : Nat) : wd n 1 = n / 18446744073709551616 % 18446744073709551616 := rfl
theorem wd2 (n : Nat) : wd n 2 = n / 340282366920938463463374607431768211456 % 18446744073709551616 := rfl
theorem wd3 (n : Nat) : wd n 3 = n / 6277101735386680763835789423207666416102355444464034512896 % 18446744073709551616 := rfl
theorem q4_at {n k : Nat} (h : k < 4) : (q4 n)[k]? = some (.int .u64 (wd n k : Nat)) := by
  match k, h with
  | 0, _ => rfl
  | 1, _ => rfl
  | 2, _ => rfl
  | 3, _ => rfl
def mk4 (a b c d : Nat) : Nat := a + 18446744073709551616 * b + 340282366920938463463374607431768211456 * c + 6277101735386680763835789423207666416102355444464034512896 * d
theorem wd_mk0 {a b c d : Nat} (ha : a < 2 ^ 64) : wd (mk4 a b c d) 0 = a := by rw [wd0]; simp only [mk4]; omega
theorem wd_mk1 {a b c d : Nat} (ha : a < 2 ^ 64) (hb : b < 2 ^ 64) : wd (mk4 a b c d) 1 = b := by rw [wd1]; simp only [mk4]; omega
theorem wd_mk2 {a b c d : Nat} (ha : a < 2 ^ 64) (hb : b < 2 ^ 64) (hc : c < 2 ^ 64) : wd (mk4 a b c d) 2 = c := by rw [wd2]; simp only [mk4]; omega
theorem wd_mk3 {a b c d : Nat} (ha : a < 2 ^ 64) (hb : b < 2 ^ 64) (hc : c < 2 ^ 64) (hd : d < 2 ^ 64) : wd (mk4 a b c d) 3 = d := by rw [wd3]; simp only [mk4]; omega
theorem q4_mk {a b c d : Nat} (ha : a < 2 ^ 64) (hb : b < 2 ^ 64) (hc : c < 2 ^ 64) (hd : d < 2 ^ 64) : q4 (mk4 a b c d) = [.int .u64 (a : Nat), .int .u64 (b : Nat), .int .u64 (c : Nat), .int .u64 (d : Nat)] := by
  simp only [q4, wd_mk0 ha, wd_mk1 ha hb, wd_mk2 ha hb hc, wd_mk3 ha hb hc hd]
theorem mk4_wd {n : Nat} (h : n < 2 ^ 256) : mk4 (wd n 0) (wd n 1) (wd n 2) (wd n 3) = n := by
  rw [wd0, wd1, wd2, wd3]; simp only [mk4]; omega
theorem q4_inj {m n : Nat} (hm : m < 2 ^ 256) (hn : n < 2 ^ 256) (h : q4 m = q4 n) : m = n := by
  simp only [q4, List.cons.injEq, AV.int.injEq, true_and, and_true, Int.natCast_inj] at h
  rw [← mk4_wd hm, ← mk4_wd hn, h.1, h.2.1, h.2.2.1, h.2.2.2]
theorem ints_q4 {m n : Nat} (hm : m < 2 ^ 256) (hn : n < 2 ^ 256) : (ints (q4 m) = ints (q4 n)) = (m = n) := by
  refine propext ⟨fun h => q4_inj hm hn ?_, fun h => by rw [h]⟩
  simp only [q4, ints, List.cons.injEq, and_true] at h
  simp only [q4, h.1, h.2.1, h.2.2.1, h.2.2.2]
theorem hasK_q4 (n : Nat) : hasK [.u64, .u64, .u64, .u64] (q4 n) = true := by simp [q4, hasK]
theorem q4_zero : q4 0 = [.int .u64 0, .int .u64 0, .int .u64 0, .int .u64 0] := rfl
theorem wd_bit (n k j : Nat) (hj : j < 64) : wd n k / 2 ^ j % 2 = n / 2 ^ (64 * k + j) % 2 := by
  simp only [wd]
  rw [Nat.pow_add, ← Nat.div_div_eq_div_mul]
  generalize n / 2 ^ (64 * k) = m
  have h : m % 2 ^ 64 / 2 ^ j % 2 = m / 2 ^ j % 2 := by
    have e : (2 : Nat) ^ 64 = 2 ^ j * 2 ^ (64 - j) := by rw [← Nat.pow_add]; congr 1; omega
    rw [e, Nat.mod_mul_right_div_self]
    exact Nat.mod_mod_of_dvd _ (Nat.dvd_trans (by simp) (Nat.pow_dvd_pow 2 (by omega : 1 ≤ 64 - j)))
  exact h
theorem wd_bit' (n i : Nat) : wd n (i / 64) / 2 ^ (i % 64) % 2 = n / 2 ^ i % 2 := by
  rw [wd_bit n _ _ (Nat.mod_lt _ (by decide))]
  congr 3; omega
theorem wd_byte (n i : Nat) : wd n (i / 8) / 2 ^ (8 * (i % 8)) % 256 = n / 256 ^ i % 256 := by
  simp only [wd]
  have h1 : i % 8 < 8 := Nat.mod_lt _ (by decide)
  have h2 : (256 : Nat) ^ i = 2 ^ (64 * (i / 8)) * 2 ^ (8 * (i % 8)) := by
    rw [← Nat.pow_add, show (256 : Nat) = 2 ^ 8 from rfl, ← Nat.pow_mul]; congr 1; omega
  rw [h2, ← Nat.div_div_eq_div_mul]
  generalize n / 2 ^ (64 * (i / 8)) = m
  have e : (2 : Nat) ^ 64 = 2 ^ (8 * (i % 8)) * 2 ^ (64 - 8 * (i % 8)) := by rw [← Nat.pow_add]; congr 1; omega
  rw [e, Nat.mod_mul_right_div_self]
  refine Nat.mod_mod_of_dvd _ ?_
  exact (show (256 : Nat) = 2 ^ 8 from rfl) ▸ Nat.pow_dvd_pow 2 (by omega)
def byL (n s : Nat) : List UInt8 := (List.range n).map fun i => UInt8.ofNat (s / 256 ^ i)
def byN : List UInt8 → Nat
  | [] => 0
  | x :: l => x.toNat + 256 * byN l
theorem byL_len (n s : Nat) : (byL n s).length = n := by simp [byL]
theorem byL_succ (n s : Nat) : byL (n + 1) s = byL n s ++ [UInt8.ofNat (s / 256 ^ n)] := by simp [byL, List.range_succ]
theorem byL_get {n s i : Nat} (h : i < n) : (byL n s)[i]? = some (UInt8.ofNat (s / 256 ^ i)) := by simp [byL, h]
theorem byN_lt : ∀ (l : List UInt8), byN l < 256 ^ l.length
  | [] => by simp [byN]
  | x :: l => by
    have := byN_lt l
    have := x.toNat_lt
    simp only [byN, List.length_cons, Nat.pow_succ]
    omega
theorem byN_append : ∀ (a b : List UInt8), byN (a ++ b) = byN a + 256 ^ a.length * byN b
  | [], b => by simp [byN]
  | x :: a, b => by
    simp only [List.cons_append, byN, byN_append a b, List.length_cons, Nat.pow_succ]
    rw [Nat.mul_add, Nat.add_assoc, Nat.mul_comm (256 ^ a.length) 256, Nat.mul_assoc]
theorem byN_take (l : List UInt8) (i : Nat) (h : i < l.length) : byN (l.take (i + 1)) = byN (l.take i) + l[i].toNat * 256 ^ i := by
  rw [List.take_succ_eq_append_getElem h, byN_append, List.length_take, Nat.min_eq_left (by omega)]
  simp [byN, Nat.mul_comm]
theorem byN_drop (l : List UInt8) (i : Nat) (h : i < l.length) : byN (l.drop i) = l[i].toNat + 256 * byN (l.drop (i + 1)) := by
  rw [List.drop_eq_getElem_cons h]; rfl
theorem byN_div : ∀ (l : List UInt8) (i : Nat), byN l / 256 ^ i = byN (l.drop i)
  | [], i => by simp [byN]
  | x :: l, 0 => by simp
  | x :: l, i + 1 => by
    rw [List.drop_succ_cons, ← byN_div l i, Nat.pow_succ, Nat.mul_comm, ← Nat.div_div_eq_div_mul]
    congr 1
    have := x.toNat_lt
    simp only [byN]; omega
theorem byN_byte (l : List UInt8) (i : Nat) (h : i < l.length) : byN l / 256 ^ i % 256 = l[i].toNat := by
  rw [byN_div, byN_drop l i h]
  have := l[i].toNat_lt
  omega
theorem byL_byN (l : List UInt8) : byL l.length (byN l) = l := by
  refine List.ext_getElem (by simp [byL]) fun i h1 h2 => ?_
  simp only [byL, List.getElem_map, List.getElem_range]
  have h := byN_byte l i h2
  have e := UInt8.toNat_ofNat' (n := byN l / 256 ^ i)
  rw [← UInt8.toNat_inj, e]
  exact h
theorem byN_byL (n s : Nat) : byN (byL n s) = s % 256 ^ n := by
  induction n with
  | zero => simp [byL, byN, Nat.mod_one]
  | succ n ih =>
    rw [byL_succ, byN_append, ih, byL_len]
    simp only [byN, Nat.mul_zero, Nat.add_zero]
    have e : (UInt8.ofNat (s / 256 ^ n)).toNat = s / 256 ^ n % 256 := UInt8.toNat_ofNat'
    rw [e, Nat.pow_succ, Nat.mod_mul]
theorem byN_bit (l : List UInt8) (i : Nat) (h : i / 8 < l.length) : l[i / 8].toNat / 2 ^ (i % 8) % 2 = byN l / 2 ^ i % 2 := by
  have e : (2 : Nat) ^ i = 256 ^ (i / 8) * 2 ^ (i % 8) := by
    rw [show (256 : Nat) = 2 ^ 8 from rfl, ← Nat.pow_mul, ← Nat.pow_add]; congr 1; omega
  rw [e, ← Nat.div_div_eq_div_mul, byN_div, byN_drop l _ h]
  have h1 : i % 8 < 8 := Nat.mod_lt _ (by decide)
  generalize l[i / 8].toNat = x
  generalize byN (l.drop (i / 8 + 1)) = y
  have e2 : 256 * y = 2 ^ (i % 8) * (2 ^ (8 - i % 8) * y) := by
    rw [← Nat.mul_assoc, ← Nat.pow_add]; congr 1; rw [show (256 : Nat) = 2 ^ 8 from rfl]; congr 1; omega
  rw [e2, Nat.add_mul_div_left _ _ (Nat.pow_pos (by decide))]
  have e3 : 2 ^ (8 - i % 8) * y = 2 * (2 ^ (7 - i % 8) * y) := by
    rw [← Nat.mul_assoc, ← Nat.pow_succ']; congr 2; omega
  rw [e3, Nat.add_mul_mod_self_left]
theorem wrap_u {k : IntKind} (hk : k.signed = false) (n : Nat) : k.wrap (n : Int) = (n % 2 ^ k.bits : Nat) := by
  unfold IntKind.wrap
  simp [hk]
theorem wrapu64 (n : Nat) : IntKind.u64.wrap (n : Int) = (n % 18446744073709551616 : Nat) := wrap_u rfl n
theorem wrapu32 (n : Nat) : IntKind.u32.wrap (n : Int) = (n % 4294967296 : Nat) := wrap_u rfl n
theorem wrapu8 (n : Nat) : IntKind.u8.wrap (n : Int) = (n % 256 : Nat) := wrap_u rfl n
theorem wrap8_u8 (n : Nat) : IntKind.u8.wrap (n : Int) = ((UInt8.ofNat n).toNat : Int) := by
  rw [wrapu8]; simp
theorem bv_ofInt_nat (n m : Nat) : (BitVec.ofInt n (m : Int)).toNat = m % 2 ^ n := by simp [BitVec.toNat_ofInt]
theorem bitI_and {k : IntKind} (hk : k.signed = false) {a b : Nat} (ha : a < 2 ^ k.bits) (hb : b < 2 ^ k.bits) : bitI .and k a b = (a &&& b : Nat) := by
  simp only [bitI, BitVec.toNat_and, bv_ofInt_nat, Nat.mod_eq_of_lt ha, Nat.mod_eq_of_lt hb, wrap_u hk]
  rw [Nat.mod_eq_of_lt (Nat.and_lt_two_pow _ hb)]
theorem bitI_or {k : IntKind} (hk : k.signed = false) {a b : Nat} (ha : a < 2 ^ k.bits) (hb : b < 2 ^ k.bits) : bitI .or k a b = (a ||| b : Nat) := by
  simp only [bitI, BitVec.toNat_or, bv_ofInt_nat, Nat.mod_eq_of_lt ha, Nat.mod_eq_of_lt hb, wrap_u hk]
  rw [Nat.mod_eq_of_lt (Nat.or_lt_two_pow ha hb)]
theorem bitI_xor {k : IntKind} (hk : k.signed = false) {a b : Nat} (ha : a < 2 ^ k.bits) (hb : b < 2 ^ k.bits) : bitI .xor k a b = (a ^^^ b : Nat) := by
  simp only [bitI, BitVec.toNat_xor, bv_ofInt_nat, Nat.mod_eq_of_lt ha, Nat.mod_eq_of_lt hb, wrap_u hk]
  rw [Nat.mod_eq_of_lt (Nat.xor_lt_two_pow ha hb)]
theorem and1_u64 {a : Nat} (ha : a < 2 ^ 64) : bitI .and .u64 a 1 = (a % 2 : Nat) := by
  have h := bitI_and (k := .u64) rfl (a := a) (b := 1) ha (by decide)
  rw [Nat.and_one_is_mod] at h
  exact h
theorem and1_u8 {a : Nat} (ha : a < 2 ^ 8) : bitI .and .u8 a 1 = (a % 2 : Nat) := by
  have h := bitI_and (k := .u8) rfl (a := a) (b := 1) ha (by decide)
  rw [Nat.and_one_is_mod] at h
  exact h
theorem shr_nat (a s : Nat) : (a : Int).fdiv (2 ^ s) = (a / 2 ^ s : Nat) := by
  have h : ((2 : Int) ^ s) = ((2 ^ s : Nat) : Int) := by simp
  rw [h, Int.fdiv_eq_ediv_of_nonneg _ (Int.natCast_nonneg _)]
  rfl
theorem or_shl (a b s : Nat) (h : a < 2 ^ s) : a ||| (b * 2 ^ s) = a + b * 2 ^ s := by
  rw [Nat.or_comm, ← Nat.shiftLeft_eq, ← Nat.shiftLeft_add_eq_or_of_lt h, Nat.add_comm]
theorem shl_or (a b s : Nat) (h : a < 2 ^ s) : (b * 2 ^ s) ||| a = b * 2 ^ s + a := by
  rw [← Nat.shiftLeft_eq, ← Nat.shiftLeft_add_eq_or_of_lt h]
end Go.Fw
namespace Go.Fw
@[simp] theorem cleanL_q4 (n : Nat) : cleanL (q4 n) = true := by simp [q4, cleanL, AV.clean]
@[simp] theorem ltL_q4 (m n : Nat) : ltL m (q4 n) = true := by simp [q4, ltL, AV.ltI]
@[simp] theorem idsL_q4 (q : Nat → Bool) (n : Nat) : idsL q (q4 n) = true := by simp [q4, idsL, AV.ids]
@[simp] theorem subL_q4 (s : Nat → Nat → Nat → Nat → Option Nat → AV) (p : Nat → Nat → AV) (n : Nat) : subL s p (q4 n) = q4 n := by simp [q4, subL, AV.sub]
@[simp] theorem q4_length (n : Nat) : (q4 n).length = 4 := by simp [q4]
@[simp] theorem take4_q4 (n : Nat) : (q4 n).take 4 = q4 n := by simp [q4]
@[simp] theorem hasK4_q4 (n : Nat) : hasK [.u64, .u64, .u64, .u64] (q4 n) = true := by simp [q4, hasK]
@[simp] theorem q4_getElem (n k : Nat) (h : k < (q4 n).length) : (q4 n)[k] = .int .u64 (wd n k : Nat) := by
  have e := q4_at (n := n) (k := k) (by simpa using h)
  rw [List.getElem?_eq_getElem h] at e
  exact Option.some.inj e
section
variable {P : Program} {L : Nat} {k : List It} {e : Env} {H : Heap} {Q : Post} {p : Pend} {d : Option Nat} {pos : Nat} {ks chk : List Nat} {l : List (DOper × List Nat)}
theorem WS_at_q4 (n i : Nat) : WS P L (atF (q4 n) i) d ks l p e H k Q ↔ i < 4 ∧ WR P L l p ((e.setO d (.int .u64 (wd n i : Nat))).dels ks) H k Q := by
  by_cases h : i < 4
  · rw [show atF (q4 n) i = ok1 (.int .u64 (wd n i : Nat)) by unfold atF; rw [q4_at h]]; simp [h, WS, ok1]
  · have hn : (q4 n)[i]? = none := List.getElem?_eq_none (by simp; omega)
    simp [atF, hn, h, WS]
theorem WSr_at_q4 (n i : Nat) (o : IOp) : WSr P L (atF (q4 n) i) true o pos d ks l p e H k Q ↔ i < 4 ∧ WR P L l ((pos, o, e, (.int .u64 (wd n i : Nat))) :: p) ((e.setO d (.int .u64 (wd n i : Nat))).dels ks) H k Q := by
  by_cases h : i < 4
  · rw [show atF (q4 n) i = ok1 (.int .u64 (wd n i : Nat)) by unfold atF; rw [q4_at h]]; simp [h, WSr, ok1]
  · have hn : (q4 n)[i]? = none := List.getElem?_eq_none (by simp; omega)
    simp [atF, hn, h, WSr]
theorem WS_at_map {α : Type} [Inhabited α] (f : α → AV) (xs : List α) (i : Nat) : WS P L (atF (xs.map f) i) d ks l p e H k Q ↔ i < xs.length ∧ WR P L l p ((e.setO d (f (xs.getD i default))).dels ks) H k Q := by
  by_cases h : i < xs.length
  · simp [atF, h, WS, ok1]
  · simp [atF, h, WS]
theorem WSr_at_map {α : Type} [Inhabited α] (f : α → AV) (xs : List α) (i : Nat) (o : IOp) : WSr P L (atF (xs.map f) i) true o pos d ks l p e H k Q ↔ i < xs.length ∧ WR P L l ((pos, o, e, (f (xs.getD i default))) :: p) ((e.setO d (f (xs.getD i default))).dels ks) H k Q := by
  by_cases h : i < xs.length
  · simp [atF, h, WSr, ok1]
  · simp [atF, h, WSr]
end
theorem lt_div {x y m : Nat} (h : x / m ≠ y / m) : (x < y) = (x / m < y / m) := by
  refine propext ⟨fun hl => Nat.lt_of_le_of_ne (Nat.div_le_div_right (Nat.le_of_lt hl)) h, fun hl => ?_⟩
  apply Classical.byContradiction
  intro hn
  exact absurd (Nat.div_le_div_right (c := m) (Nat.le_of_not_lt hn)) (Nat.not_le_of_lt hl)
theorem wd_div (n k : Nat) : n / 2 ^ (64 * k) = wd n k + 2 ^ 64 * (n / 2 ^ (64 * (k + 1))) := by
  have h := Nat.mod_add_div (n / 2 ^ (64 * k)) (2 ^ 64)
  rw [Nat.div_div_eq_div_mul, ← Nat.pow_add] at h
  exact h.symm
theorem wd_cmp {a b k : Nat} (h : a / 2 ^ (64 * (k + 1)) = b / 2 ^ (64 * (k + 1))) (hn : wd a k ≠ wd b k) : (a < b) = (wd a k < wd b k) := by
  have h1 := wd_div a k
  have h2 := wd_div b k
  rw [lt_div (m := 2 ^ (64 * k)) (by omega), h1, h2, h]
  exact propext ⟨fun h => by omega, fun h => by omega⟩
theorem wd_eq {a b k : Nat} (h : a / 2 ^ (64 * (k + 1)) = b / 2 ^ (64 * (k + 1))) (hn : wd a k = wd b k) : a / 2 ^ (64 * k) = b / 2 ^ (64 * k) := by
  rw [wd_div a k, wd_div b k, h, hn]
end Go.Fw
namespace Go.Fw
def car (a b i : Nat) : Nat := (a % 2 ^ (64 * i) + b % 2 ^ (64 * i)) / 2 ^ (64 * i)
def bor (a b i : Nat) : Nat := if a % 2 ^ (64 * i) < b % 2 ^ (64 * i) then 1 else 0
theorem car_zero (a b : Nat) : car a b 0 = 0 := by simp [car, Nat.mod_one]
theorem bor_zero (a b : Nat) : bor a b 0 = 0 := by simp [bor, Nat.mod_one]
theorem car_le (a b i : Nat) : car a b i ≤ 1 := by
  simp only [car]
  have hp : 0 < 2 ^ (64 * i) := Nat.pow_pos (by decide)
  have h1 := Nat.mod_lt a hp
  have h2 := Nat.mod_lt b hp
  exact Nat.le_of_lt_succ ((Nat.div_lt_iff_lt_mul hp).2 (by omega))
theorem bor_le (a b i : Nat) : bor a b i ≤ 1 := by simp only [bor]; split <;> omega
theorem pow_next (i : Nat) : 2 ^ (64 * (i + 1)) = 2 ^ (64 * i) * 18446744073709551616 := by rw [Nat.mul_add, Nat.pow_add]
theorem mod_next (a i : Nat) : a % 2 ^ (64 * (i + 1)) = a % 2 ^ (64 * i) + 2 ^ (64 * i) * wd a i := by
  rw [pow_next, Nat.mod_mul]; rfl
theorem wd_add (a b i : Nat) : wd (a + b) i = (wd a i + wd b i + car a b i) % 18446744073709551616 := by
  have hp : 0 < 2 ^ (64 * i) := Nat.pow_pos (by decide)
  have e : (a + b) / 2 ^ (64 * i) = a / 2 ^ (64 * i) + b / 2 ^ (64 * i) + car a b i := by
    simp only [car]
    generalize 2 ^ (64 * i) = m at *
    have h1 := Nat.mod_add_div a m
    have h2 := Nat.mod_add_div b m
    have h3 : a + b = (a % m + b % m) + m * (a / m + b / m) := by rw [Nat.mul_add]; omega
    rw [h3, Nat.add_mul_div_left _ _ hp]
    omega
  simp only [wd, e]
  omega
theorem car_succ (a b i : Nat) : (wd a i + wd b i + car a b i) / 18446744073709551616 = car a b (i + 1) := by
  have hp : 0 < 2 ^ (64 * i) := Nat.pow_pos (by decide)
  simp only [car, mod_next]
  rw [pow_next, ← Nat.div_div_eq_div_mul]
  congr 1
  generalize 2 ^ (64 * i) = m at *
  have h3 : a % m + m * wd a i + (b % m + m * wd b i) = (a % m + b % m) + m * (wd a i + wd b i) := by rw [Nat.mul_add]; omega
  rw [h3, Nat.add_mul_div_left _ _ hp]
  omega
theorem lex_lt {m x y a b : Nat} (hx : x < m) (hy : y < m) : (x + m * a < y + m * b) = (a < b + (if x < y then 1 else 0)) := by
  refine propext ?_
  rcases Nat.lt_trichotomy a b with h | h | h
  · obtain ⟨c, rfl⟩ := Nat.exists_eq_add_of_lt h
    have e : m * (a + c + 1) = m * a + m * c + m := by rw [Nat.mul_add, Nat.mul_add, Nat.mul_one]
    have := Nat.zero_le (m * c)
    refine ⟨fun _ => by omega, fun _ => by omega⟩
  · subst h
    by_cases hxy : x < y
    · simp [hxy]
    · simp [hxy]
  · obtain ⟨c, rfl⟩ := Nat.exists_eq_add_of_lt h
    have e : m * (b + c + 1) = m * b + m * c + m := by rw [Nat.mul_add, Nat.mul_add, Nat.mul_one]
    have := Nat.zero_le (m * c)
    refine ⟨fun _ => by omega, fun h => by split at h <;> omega⟩
theorem bor_succ (a b i : Nat) : (if wd a i < wd b i + bor a b i then 1 else 0) = bor a b (i + 1) := by
  have hp : 0 < 2 ^ (64 * i) := Nat.pow_pos (by decide)
  have h : (a % 2 ^ (64 * i) + 2 ^ (64 * i) * wd a i < b % 2 ^ (64 * i) + 2 ^ (64 * i) * wd b i) = (wd a i < wd b i + bor a b i) := lex_lt (Nat.mod_lt a hp) (Nat.mod_lt b hp)
  show _ = if a % 2 ^ (64 * (i + 1)) < b % 2 ^ (64 * (i + 1)) then 1 else 0
  simp only [mod_next, h]
theorem wd_sub (a b i : Nat) (h : b ≤ a) : (wd a i + 18446744073709551616 - wd b i - bor a b i) % 18446744073709551616 = wd (a - b) i := by
  have hp : 0 < 2 ^ (64 * i) := Nat.pow_pos (by decide)
  have e : (a - b) / 2 ^ (64 * i) = a / 2 ^ (64 * i) - b / 2 ^ (64 * i) - bor a b i ∧ b / 2 ^ (64 * i) + bor a b i ≤ a / 2 ^ (64 * i) := by
    simp only [bor]
    generalize 2 ^ (64 * i) = m at *
    have h1 := Nat.mod_add_div a m
    have h2 := Nat.mod_add_div b m
    have l1 := Nat.mod_lt a hp
    have l2 := Nat.mod_lt b hp
    have hl : ¬ (a % m + m * (a / m) < b % m + m * (b / m)) := by omega
    rw [lex_lt l1 l2] at hl
    generalize a % m = x at *
    generalize b % m = y at *
    obtain ⟨c, hc⟩ := Nat.exists_eq_add_of_le (Nat.le_of_not_lt hl)
    rw [hc] at h1 ⊢
    refine ⟨?_, by omega⟩
    have e2 : m * (b / m + (if x < y then 1 else 0) + c) = m * (b / m) + (if x < y then m else 0) + m * c := by
      rw [Nat.mul_add, Nat.mul_add]; split <;> simp
    rw [e2] at h1
    have e3 : a - b = (x + (if x < y then m else 0) - y) + m * c := by split at h1 <;> rename_i hxy <;> simp only [hxy, if_true, if_false] <;> omega
    rw [e3, Nat.add_mul_div_left _ _ hp, Nat.div_eq_of_lt (by split <;> omega)]
    omega
  have hb := bor_le a b i
  simp only [wd, e.1]
  omega
def mx (i s n : Nat) : List AV := [.int .u64 (if 0 < i then wd s 0 else wd n 0 : Nat), .int .u64 (if 1 < i then wd s 1 else wd n 1 : Nat), .int .u64 (if 2 < i then wd s 2 else wd n 2 : Nat), .int .u64 (if 3 < i then wd s 3 else wd n 3 : Nat)]
theorem mx_zero (s n : Nat) : mx 0 s n = q4 n := rfl
theorem mx_four (s n : Nat) : mx 4 s n = q4 s := rfl
theorem mx_at {i s n k : Nat} (h : k < 4) : (mx i s n)[k]? = some (.int .u64 (if k < i then wd s k else wd n k : Nat)) := by
  match k, h with
  | 0, _ => rfl
  | 1, _ => rfl
  | 2, _ => rfl
  | 3, _ => rfl
@[simp] theorem mx_length (i s n : Nat) : (mx i s n).length = 4 := by simp [mx]
@[simp] theorem cleanL_mx (i s n : Nat) : cleanL (mx i s n) = true := by simp [mx, cleanL, AV.clean]
@[simp] theorem ltL_mx (m i s n : Nat) : ltL m (mx i s n) = true := by simp [mx, ltL, AV.ltI]
theorem mx_set {i : Nat} (s n : Nat) (h : i < 4) : splice (mx i s n) i [.int .u64 (wd s i : Nat)] = mx (i + 1) s n := by
  match i, h with
  | 0, _ => rfl
  | 1, _ => rfl
  | 2, _ => rfl
  | 3, _ => rfl
theorem mx_set' {i : Nat} (s n : Nat) (h : i < 4) : (mx i s n).set i (.int .u64 (wd s i : Nat)) = mx (i + 1) s n := mx_set s n h
section
variable {P : Program} {L : Nat} {k : List It} {e : Env} {H : Heap} {Q : Post} {p : Pend} {d : Option Nat} {pos : Nat} {ks chk : List Nat} {l : List (DOper × List Nat)}
theorem WS_at_mx (s n i : Nat) : WS P L (atF (mx i s n) i) d ks l p e H k Q ↔ i < 4 ∧ WR P L l p ((e.setO d (.int .u64 (wd n i : Nat))).dels ks) H k Q := by
  by_cases h : i < 4
  · rw [show atF (mx i s n) i = ok1 (.int .u64 (wd n i : Nat)) by unfold atF; rw [mx_at h, if_neg (Nat.lt_irrefl i)]]; simp [h, WS, ok1]
  · have hn : (mx i s n)[i]? = none := List.getElem?_eq_none (by simp; omega)
    simp [atF, hn, h, WS]
end
def dca (n bit i : Nat) : Nat := (2 * (n % 2 ^ (64 * i)) + bit) / 2 ^ (64 * i)
theorem dca_zero (n bit : Nat) : dca n bit 0 = bit := by simp [dca, Nat.mod_one]
theorem dca_next (n bit i : Nat) : (wd n i * 2 + dca n bit i) / 18446744073709551616 = dca n bit (i + 1) := by
  have hp : 0 < 2 ^ (64 * i) := Nat.pow_pos (by decide)
  simp only [dca, mod_next]
  rw [pow_next, ← Nat.div_div_eq_div_mul]
  congr 1
  generalize 2 ^ (64 * i) = m at *
  have h3 : 2 * (n % m + m * wd n i) + bit = (2 * (n % m) + bit) + m * (wd n i * 2) := by
    rw [Nat.mul_add, ← Nat.mul_assoc m, Nat.mul_comm 2 (m * _)]; omega
  rw [h3, Nat.add_mul_div_left _ _ hp]
  omega
theorem dca_le (n bit : Nat) (hb : bit ≤ 1) : ∀ i, dca n bit i ≤ 1
  | 0 => by rw [dca_zero]; exact hb
  | i + 1 => by
    rw [← dca_next]
    have := dca_le n bit hb i
    have := wd_lt n i
    omega
theorem dca_succ (n bit i : Nat) (hb : bit ≤ 1) : wd n i / 9223372036854775808 = dca n bit (i + 1) := by
  rw [← dca_next]
  have := dca_le n bit hb i
  omega
theorem wd_dbl (n bit i : Nat) : wd (2 * n + bit) i = (wd n i * 2 + dca n bit i) % 18446744073709551616 := by
  have hp : 0 < 2 ^ (64 * i) := Nat.pow_pos (by decide)
  have e : (2 * n + bit) / 2 ^ (64 * i) = n / 2 ^ (64 * i) * 2 + dca n bit i := by
    simp only [dca]
    generalize 2 ^ (64 * i) = m at *
    have h1 := Nat.mod_add_div n m
    have h3 : 2 * n + bit = (2 * (n % m) + bit) + m * (n / m * 2) := by
      rw [← Nat.mul_assoc]; omega
    rw [h3, Nat.add_mul_div_left _ _ hp]
    omega
  simp only [wd, e]
  omega
theorem splice_full {xs vs : List AV} (h : vs.length = xs.length) : splice xs 0 vs = vs := by
  rw [splice_take_drop _ _ _ (by omega)]; simp [h]
end Go.Fw
namespace Go.Fw
def arr (K : IntKind) (m : Nat) (g : Nat → Nat) : List AV := (List.range m).map fun k => .int K (g k : Nat)
@[simp] theorem arr_length (K : IntKind) (m : Nat) (g : Nat → Nat) : (arr K m g).length = m := by simp [arr]
theorem arr_at {K : IntKind} {m i : Nat} {g : Nat → Nat} (h : i < m) : (arr K m g)[i]? = some (.int K (g i : Nat)) := by simp [arr, h]
@[simp] theorem arr_getElem (K : IntKind) (m : Nat) (g : Nat → Nat) (k : Nat) (h : k < (arr K m g).length) : (arr K m g)[k] = .int K (g k : Nat) := by simp [arr]
@[simp] theorem cleanL_arr (K : IntKind) (m : Nat) (g : Nat → Nat) : cleanL (arr K m g) = true := cleanL_map _ fun x => by simp [AV.clean]
@[simp] theorem ltL_arr (n : Nat) (K : IntKind) (m : Nat) (g : Nat → Nat) : ltL n (arr K m g) = true := ltL_map _ fun x => by simp [AV.ltI]
@[simp] theorem idsL_arr (q : Nat → Bool) (K : IntKind) (m : Nat) (g : Nat → Nat) : idsL q (arr K m g) = true := idsL_map _ fun x => by simp [AV.ids]
@[simp] theorem subL_arr (s : Nat → Nat → Nat → Nat → Option Nat → AV) (p : Nat → Nat → AV) (K : IntKind) (m : Nat) (g : Nat → Nat) : subL s p (arr K m g) = arr K m g := subL_map _ fun x => by simp [AV.sub]
theorem arr_take (K : IntKind) (m : Nat) (g : Nat → Nat) : (arr K m g).take m = arr K m g := List.take_of_length_le (by simp)
theorem arr_ext {K : IntKind} {m : Nat} {g h : Nat → Nat} (e : ∀ k, k < m → g k = h k) : arr K m g = arr K m h := by
  refine List.map_congr_left fun k hk => ?_
  rw [e k (by simpa using hk)]
theorem arr_inj {K : IntKind} {m : Nat} {g h : Nat → Nat} (e : arr K m g = arr K m h) : ∀ k, k < m → g k = h k := fun k hk => by
  have h1 := arr_at (K := K) (g := g) hk
  have h2 := arr_at (K := K) (g := h) hk
  rw [e, h2] at h1
  exact Int.natCast_inj.1 (by simpa using h1.symm)
def upd (g : Nat → Nat) (i v : Nat) : Nat → Nat := fun k => if k = i then v else g k
theorem arr_set (K : IntKind) (m : Nat) (g : Nat → Nat) (i v : Nat) : (arr K m g).set i (.int K (v : Nat)) = arr K m (upd g i v) := by
  refine List.ext_getElem (by simp) fun k h1 h2 => ?_
  simp only [arr_getElem, upd, List.getElem_set]
  by_cases h : k = i
  · subst h; simp
  · simp [h, Ne.symm h]
theorem arr_replicate (K : IntKind) (m v : Nat) : List.replicate m (AV.int K (v : Nat)) = arr K m fun _ => v := by
  refine List.ext_getElem (by simp) fun k h1 h2 => by simp
theorem hasK_rep (K : IntKind) : ∀ (m : Nat) (l : List AV), (∀ x ∈ l, ∃ n, x = .int K n) → l.length = m → hasK (List.replicate m K) l = true
  | 0, [], _, _ => rfl
  | m + 1, x :: l, h, hl => by
    obtain ⟨n, rfl⟩ := h x (by simp)
    simp only [List.replicate_succ, hasK, decide_true, Bool.true_and]
    exact hasK_rep K m l (fun y hy => h y (by simp [hy])) (by simpa using hl)
theorem hasK_arr (K : IntKind) (m : Nat) (g : Nat → Nat) : hasK (List.replicate m K) (arr K m g) = true :=
  hasK_rep K m _ (fun x hx => by obtain ⟨k, _, rfl⟩ := List.mem_map.1 hx; exact ⟨_, rfl⟩) (by simp)
theorem ints_map {α : Type} (K : IntKind) (f : α → Int) : ∀ l : List α, ints (l.map fun x => AV.int K (f x)) = l.map f
  | [] => rfl
  | x :: l => by simp only [List.map_cons, ints, ints_map K f l]
theorem ints_arr (K : IntKind) (m : Nat) (g : Nat → Nat) : ints (arr K m g) = (List.range m).map fun k => (g k : Int) := ints_map K _ _
theorem hasK_bytes (l : List UInt8) {m : Nat} (h : l.length = m) : hasK (List.replicate m .u8) (l.map bv) = true :=
  hasK_rep .u8 m _ (fun x hx => by obtain ⟨k, _, rfl⟩ := List.mem_map.1 hx; exact ⟨_, rfl⟩) (by simpa using h)
theorem q4_arr (n : Nat) : q4 n = arr .u64 4 (wd n) := rfl
theorem bytes_arr (l : List UInt8) {m : Nat} (h : l.length = m) : l.map bv = arr .u8 m fun k => (l.getD k 0).toNat := by
  subst h
  refine List.ext_getElem (by simp) fun k h1 h2 => ?_
  simp at h1
  simp [bv, h1]
theorem byL_arr (m n : Nat) : (byL m n).map bv = arr .u8 m fun k => n / 256 ^ k % 256 := by
  refine List.ext_getElem (by simp [byL]) fun k h1 h2 => ?_
  simp [byL, bv]
section
variable {P : Program} {L : Nat} {k : List It} {e : Env} {H : Heap} {Q : Post} {p : Pend} {d : Option Nat} {pos : Nat} {ks chk : List Nat} {l : List (DOper × List Nat)}
theorem WS_at_arr (K : IntKind) (m : Nat) (g : Nat → Nat) (i : Nat) : WS P L (atF (arr K m g) i) d ks l p e H k Q ↔ i < m ∧ WR P L l p ((e.setO d (.int K (g i : Nat))).dels ks) H k Q := by
  by_cases h : i < m
  · rw [show atF (arr K m g) i = ok1 (.int K (g i : Nat)) by unfold atF; rw [arr_at h]]; simp [h, WS, ok1]
  · have hn : (arr K m g)[i]? = none := List.getElem?_eq_none (by simp; omega)
    simp [atF, hn, h, WS]
theorem WSr_at_arr (K : IntKind) (m : Nat) (g : Nat → Nat) (i : Nat) (o : IOp) : WSr P L (atF (arr K m g) i) true o pos d ks l p e H k Q ↔ i < m ∧ WR P L l ((pos, o, e, (.int K (g i : Nat))) :: p) ((e.setO d (.int K (g i : Nat))).dels ks) H k Q := by
  by_cases h : i < m
  · rw [show atF (arr K m g) i = ok1 (.int K (g i : Nat)) by unfold atF; rw [arr_at h]]; simp [h, WSr, ok1]
  · have hn : (arr K m g)[i]? = none := List.getElem?_eq_none (by simp; omega)
    simp [atF, hn, h, WSr]
end
def nV (K : IntKind) (n : Nat) : AV := .int K n
section
variable (K : IntKind) (l : List Nat)
@[simp] theorem cleanL_nV : cleanL (l.map (nV K)) = true := cleanL_map _ fun x => by simp [nV, AV.clean]
@[simp] theorem ltL_nV (n : Nat) : ltL n (l.map (nV K)) = true := ltL_map _ fun x => by simp [nV, AV.ltI]
@[simp] theorem idsL_nV (q : Nat → Bool) : idsL q (l.map (nV K)) = true := idsL_map _ fun x => by simp [nV, AV.ids]
@[simp] theorem subL_nV (s : Nat → Nat → Nat → Nat → Option Nat → AV) (p : Nat → Nat → AV) : subL s p (l.map (nV K)) = l.map (nV K) := subL_map _ fun x => by simp [nV, AV.sub]
end
theorem byN_bitD (l : List UInt8) (i : Nat) : (l.getD (i / 8) 0).toNat / 2 ^ (i % 8) % 2 = byN l / 2 ^ i % 2 := by
  by_cases h : i / 8 < l.length
  · rw [← byN_bit l i h]; simp [h]
  · have e : byN l / 2 ^ i = 0 := by
      refine Nat.div_eq_of_lt (Nat.lt_of_lt_of_le (byN_lt l) ?_)
      rw [show (256 : Nat) = 2 ^ 8 from rfl, ← Nat.pow_mul]
      exact Nat.pow_le_pow_right (by decide) (by omega)
    simp [e, h]
theorem pow256 (i : Nat) : (256 : Nat) ^ i = 2 ^ (64 * (i / 8)) * 2 ^ (8 * (i % 8)) := by
  rw [← Nat.pow_add, show (256 : Nat) = 2 ^ 8 from rfl, ← Nat.pow_mul]; congr 1; omega
theorem wd_top {m i : Nat} (hm : m < 256 ^ i) : wd m (i / 8) < 2 ^ (8 * (i % 8)) := by
  refine Nat.lt_of_le_of_lt (Nat.mod_le _ _) ((Nat.div_lt_iff_lt_mul (Nat.pow_pos (by decide))).2 ?_)
  rw [Nat.mul_comm, ← pow256]; exact hm
theorem wd_high {m i k : Nat} (hm : m < 256 ^ i) (h : i ≤ 8 * k) : wd m k = 0 := by
  simp only [wd]
  rw [Nat.div_eq_of_lt (Nat.lt_of_lt_of_le hm ?_)]
  rw [show (256 : Nat) = 2 ^ 8 from rfl, ← Nat.pow_mul]; exact Nat.pow_le_pow_right (by decide) (by omega)
theorem q4_put (m i x : Nat) (hm : m < 256 ^ i) (hx : x < 256) : (q4 m).set (i / 8) (.int .u64 (wd m (i / 8) + x * 2 ^ (8 * (i % 8)) : Nat)) = q4 (m + x * 256 ^ i) := by
  rw [q4_arr, arr_set, q4_arr]
  refine arr_ext fun k hk => ?_
  simp only [upd]
  have hr : i % 8 < 8 := Nat.mod_lt _ (by decide)
  have hs : m + x * 256 ^ i < 256 ^ (i + 1) := by
    rw [Nat.pow_succ]
    have := Nat.mul_le_mul_right (256 ^ i) (Nat.le_of_lt_succ hx)
    omega
  by_cases h : k = i / 8
  · subst h
    rw [if_pos rfl]
    have ht := wd_top hm
    have e : (m + x * 256 ^ i) / 2 ^ (64 * (i / 8)) = m / 2 ^ (64 * (i / 8)) + x * 2 ^ (8 * (i % 8)) := by
      rw [pow256, Nat.mul_left_comm, Nat.add_mul_div_left _ _ (Nat.pow_pos (by decide))]
    have e2 : m / 2 ^ (64 * (i / 8)) < 2 ^ (8 * (i % 8)) := by
      refine (Nat.div_lt_iff_lt_mul (Nat.pow_pos (by decide))).2 ?_
      rw [Nat.mul_comm, ← pow256]; exact hm
    have e3 : x * 2 ^ (8 * (i % 8)) + 2 ^ (8 * (i % 8)) ≤ 2 ^ 64 := by
      rw [← Nat.succ_mul]
      refine Nat.le_trans (Nat.mul_le_mul_right _ hx) ?_
      rw [show (256 : Nat) = 2 ^ 8 from rfl, ← Nat.pow_add]
      exact Nat.pow_le_pow_right (by decide) (by omega)
    have e4 : wd m (i / 8) = m / 2 ^ (64 * (i / 8)) := Nat.mod_eq_of_lt (by omega)
    rw [e4]
    simp only [wd, e]
    rw [Nat.mod_eq_of_lt (show m / 2 ^ (64 * (i / 8)) + x * 2 ^ (8 * (i % 8)) < 2 ^ 64 by omega)]
  · rw [if_neg h]
    by_cases h2 : k < i / 8
    · simp only [wd]
      have e : x * 256 ^ i = 2 ^ (64 * k) * (2 ^ 64 * (x * 2 ^ (64 * (i / 8 - k - 1)) * 2 ^ (8 * (i % 8)))) := by
        have e5 : (2 : Nat) ^ (64 * (i / 8)) = 2 ^ (64 * k) * (2 ^ 64 * 2 ^ (64 * (i / 8 - k - 1))) := by
          rw [← Nat.pow_add, ← Nat.pow_add]; congr 1; omega
        rw [pow256, e5]
        simp only [Nat.mul_assoc, Nat.mul_left_comm x]
      rw [e, Nat.add_mul_div_left _ _ (Nat.pow_pos (by decide)), Nat.add_mul_mod_self_left]
    · rw [wd_high hm (by omega), wd_high hs (by omega)]
def byt (n k : Nat) : Nat := n / 256 ^ k % 256
def fill (i : Nat) (g : Nat → Nat) : Nat → Nat := fun k => if k < i then g k else 0
theorem fill_zero (g : Nat → Nat) : fill 0 g = fun _ => 0 := by funext k; simp [fill]
theorem upd_fill (i : Nat) (g : Nat → Nat) : upd (fill i g) i (g i) = fill (i + 1) g := by
  funext k
  simp only [upd, fill]
  by_cases h : k = i
  · subst h; simp
  · by_cases h2 : k < i
    · simp [h, h2, Nat.lt_succ_of_lt h2]
    · simp [h, h2, show ¬ k < i + 1 by omega]
theorem arr_fill (K : IntKind) (m : Nat) (g : Nat → Nat) : arr K m (fill m g) = arr K m g := arr_ext fun k hk => by simp [fill, hk]
theorem byL_byt (m n : Nat) : arr .u8 m (byt n) = (byL m n).map bv := (byL_arr m n).symm
theorem arr_zero32 : ([.int .u8 0, .int .u8 0, .int .u8 0, .int .u8 0, .int .u8 0, .int .u8 0, .int .u8 0, .int .u8 0, .int .u8 0, .int .u8 0, .int .u8 0, .int .u8 0, .int .u8 0, .int .u8 0, .int .u8 0, .int .u8 0, .int .u8 0, .int .u8 0, .int .u8 0, .int .u8 0, .int .u8 0, .int .u8 0, .int .u8 0, .int .u8 0, .int .u8 0, .int .u8 0, .int .u8 0, .int .u8 0, .int .u8 0, .int .u8 0, .int .u8 0, .int .u8 0] : List AV) = arr .u8 32 fun _ => 0 := by kernel_rfl
theorem wd_byt (n i : Nat) : wd n (i / 8) / 2 ^ (8 * (i % 8)) % 256 = byt n i := wd_byte n i
section
variable {P : Program} {m : Nat} {t e : TypeId} {a : AV} {xs : List AV}
theorem fit_byteList (he : P.underlying e = some (.int .u8)) : ∀ {yss : List (List AV)}, (∀ y ∈ yss, Fit P (m + 1) e y) → ∃ l : List UInt8, yss.flatten = l.map bv ∧ l.length = yss.length
  | [], _ => ⟨[], rfl, rfl⟩
  | y :: yss, h => by
    obtain ⟨b, rfl⟩ := fit_u8 he (h y (by simp))
    obtain ⟨l, g1, g2⟩ := fit_byteList he (yss := yss) (fun y hy => h y (by simp [hy]))
    exact ⟨b :: l, by simp [g1], by simp [g2]⟩
theorem arg_bytesA {k : Nat} (h : P.underlying t = some (.array k e)) (he : P.underlying e = some (.int .u8)) (hf : ArgFit P (m + 2) t a) : ∃ l : List UInt8, l.length = k ∧ a = .agg (l.map bv) := by
  obtain ⟨yss, rfl, h1, h2⟩ := arg_array h hf
  obtain ⟨l, g1, g2⟩ := fit_byteList he h2
  exact ⟨l, by omega, by rw [g1]⟩
theorem fit_bytesA {k : Nat} (h : P.underlying t = some (.array k e)) (he : P.underlying e = some (.int .u8)) (hf : Fit P (m + 2) t xs) : ∃ l : List UInt8, l.length = k ∧ xs = l.map bv := by
  obtain ⟨yss, h1, h2, rfl⟩ := fit_array h hf
  obtain ⟨l, g1, g2⟩ := fit_byteList he h2
  exact ⟨l, by omega, g1⟩
end
theorem arr_zero64 : ([.int .u8 0, .int .u8 0, .int .u8 0, .int .u8 0, .int .u8 0, .int .u8 0, .int .u8 0, .int .u8 0, .int .u8 0, .int .u8 0, .int .u8 0, .int .u8 0, .int .u8 0, .int .u8 0, .int .u8 0, .int .u8 0, .int .u8 0, .int .u8 0, .int .u8 0, .int .u8 0, .int .u8 0, .int .u8 0, .int .u8 0, .int .u8 0, .int .u8 0, .int .u8 0, .int .u8 0, .int .u8 0, .int .u8 0, .int .u8 0, .int .u8 0, .int .u8 0, .int .u8 0, .int .u8 0, .int .u8 0, .int .u8 0, .int .u8 0, .int .u8 0, .int .u8 0, .int .u8 0, .int .u8 0, .int .u8 0, .int .u8 0, .int .u8 0, .int .u8 0, .int .u8 0, .int .u8 0, .int .u8 0, .int .u8 0, .int .u8 0, .int .u8 0, .int .u8 0, .int .u8 0, .int .u8 0, .int .u8 0, .int .u8 0, .int .u8 0, .int .u8 0, .int .u8 0, .int .u8 0, .int .u8 0, .int .u8 0, .int .u8 0, .int .u8 0] : List AV) = arr .u8 64 fun _ => 0 := by kernel_rfl
end Go.Fw
namespace Go.Fw
def wn {m : Nat} (x : BitVec m) : Nat := x.toNat
section
variable {m : Nat}
theorem wx_xor {K : IntKind} (hK : K.signed = false) (hm : m ≤ K.bits) (x y : BitVec m) : bitI .xor K (wn x : Nat) (wn y : Nat) = (wn (x ^^^ y) : Nat) := by
  simp only [wn]
  have e := Nat.pow_le_pow_right (n := 2) (by decide) hm
  rw [bitI_xor hK (Nat.lt_of_lt_of_le x.isLt e) (Nat.lt_of_lt_of_le y.isLt e), BitVec.toNat_xor]
theorem wx_and {K : IntKind} (hK : K.signed = false) (hm : m ≤ K.bits) (x y : BitVec m) : bitI .and K (wn x : Nat) (wn y : Nat) = (wn (x &&& y) : Nat) := by
  simp only [wn]
  have e := Nat.pow_le_pow_right (n := 2) (by decide) hm
  rw [bitI_and hK (Nat.lt_of_lt_of_le x.isLt e) (Nat.lt_of_lt_of_le y.isLt e), BitVec.toNat_and]
theorem wx_or {K : IntKind} (hK : K.signed = false) (hm : m ≤ K.bits) (x y : BitVec m) : bitI .or K (wn x : Nat) (wn y : Nat) = (wn (x ||| y) : Nat) := by
  simp only [wn]
  have e := Nat.pow_le_pow_right (n := 2) (by decide) hm
  rw [bitI_or hK (Nat.lt_of_lt_of_le x.isLt e) (Nat.lt_of_lt_of_le y.isLt e), BitVec.toNat_or]
theorem wx_shr (x : BitVec m) (s : Nat) : ((wn x : Nat) : Int).fdiv (2 ^ s) = (wn (x >>> s) : Nat) := by
  simp only [wn]
  rw [shr_nat, BitVec.toNat_ushiftRight, Nat.shiftRight_eq_div_pow]
end
theorem wx_add64 (x y : BitVec 64) : IntKind.u64.wrap ((wn x : Nat) + (wn y : Nat)) = (wn (x + y) : Nat) := by
  simp only [wn]
  rw [BitVec.toNat_add, ← Int.natCast_add, wrapu64]
theorem wx_not64 (x : BitVec 64) : bitI .xor .u64 (if IntKind.u64.signed then -1 else IntKind.u64.max) (wn x : Nat) = (wn (~~~x) : Nat) := by
  have e : (if IntKind.u64.signed then -1 else IntKind.u64.max) = ((wn (BitVec.allOnes 64) : Nat) : Int) := rfl
  have h := wx_xor (K := .u64) rfl (by decide) (BitVec.allOnes 64) x
  rw [BitVec.allOnes_xor] at h
  rw [e]; exact h
theorem wx_shl64 (x : BitVec 64) (s : Nat) (h : s < 64) : IntKind.u64.wrap ((wn x : Nat) * 2 ^ (min s 64)) = (wn (x <<< s) : Nat) := by
  simp only [wn]
  rw [show min s 64 = s by omega, BitVec.toNat_shiftLeft, Nat.shiftLeft_eq, show ((x.toNat : Nat) : Int) * 2 ^ s = ((x.toNat * 2 ^ s : Nat) : Int) by simp, wrapu64]
theorem neg_and (n k : Nat) (h1 : 1 ≤ n) (h2 : n < 2 ^ k) (hk : k ≤ 6) : bitI .and .u64 (IntKind.u64.wrap (-(n : Int))) ((2 ^ k - 1 : Nat) : Int) = ((2 ^ k - n : Nat) : Int) := by
  have hp : (2 : Nat) ^ k ≤ 2 ^ 6 := Nat.pow_le_pow_right (by decide) hk
  have e : IntKind.u64.wrap (-(n : Int)) = ((2 ^ 64 - n : Nat) : Int) := by
    unfold IntKind.wrap
    simp [IntKind.signed, IntKind.bits]
    omega
  rw [e, bitI_and rfl (show 2 ^ 64 - n < 2 ^ 64 by omega) (show 2 ^ k - 1 < 2 ^ 64 by omega), Nat.and_two_pow_sub_one_eq_mod]
  congr 1
  have e2 : (2 : Nat) ^ 64 = 2 ^ k * 2 ^ (64 - k) := by rw [← Nat.pow_add]; congr 1; omega
  have e3 : 1 ≤ 2 ^ (64 - k) := Nat.one_le_two_pow
  obtain ⟨c, hc⟩ := Nat.exists_eq_add_of_le e3
  rw [e2, hc, Nat.mul_add, Nat.mul_one, show 2 ^ k + 2 ^ k * c - n = (2 ^ k - n) + 2 ^ k * c by omega, Nat.add_mul_mod_self_left]
  exact Nat.mod_eq_of_lt (by omega)
theorem rotr_eq {m : Nat} (x : BitVec m) (n : Nat) (h : n < m) : (x <<< (m - n)) ||| (x >>> n) = x.rotateRight n := by
  rw [BitVec.or_comm]
  simp only [BitVec.rotateRight, BitVec.rotateRightAux, Nat.mod_eq_of_lt h]
structure St8 (m : Nat) where
  a : BitVec m
  b : BitVec m
  c : BitVec m
  d : BitVec m
  e : BitVec m
  f : BitVec m
  g : BitVec m
  h : BitVec m
def St8.at {m : Nat} (s : St8 m) : Nat → BitVec m
  | 0 => s.a
  | 1 => s.b
  | 2 => s.c
  | 3 => s.d
  | 4 => s.e
  | 5 => s.f
  | 6 => s.g
  | _ => s.h
def St8.cells {m : Nat} (K : IntKind) (s : St8 m) : List AV := [.int K (wn s.a : Nat), .int K (wn s.b : Nat), .int K (wn s.c : Nat), .int K (wn s.d : Nat), .int K (wn s.e : Nat), .int K (wn s.f : Nat), .int K (wn s.g : Nat), .int K (wn s.h : Nat)]
structure Sha (m : Nat) where
  R : Nat
  A : Nat × Nat × Nat
  E : Nat × Nat × Nat
  s0 : Nat × Nat × Nat
  s1 : Nat × Nat × Nat
  k : Nat → BitVec m
  h0 : St8 m
section
variable {m : Nat}
def bigT (t : Nat × Nat × Nat) (x : BitVec m) : BitVec m := x.rotateRight t.1 ^^^ x.rotateRight t.2.1 ^^^ x.rotateRight t.2.2
def smallT (t : Nat × Nat × Nat) (x : BitVec m) : BitVec m := x.rotateRight t.1 ^^^ x.rotateRight t.2.1 ^^^ (x >>> t.2.2)
def beN (l : List UInt8) : Nat := l.foldl (fun x b => x * 256 + b.toNat) 0
variable (F : Sha m)
def nextW (blk : List UInt8) (l : List (BitVec m)) (i : Nat) : BitVec m :=
  if i < 16 then BitVec.ofNat m (beN ((blk.drop (m / 8 * i)).take (m / 8)))
  else l.getD (i - 16) 0 + smallT F.s0 (l.getD (i - 15) 0) + l.getD (i - 7) 0 + smallT F.s1 (l.getD (i - 2) 0)
def wL (blk : List UInt8) : Nat → List (BitVec m)
  | 0 => []
  | i + 1 => wL blk i ++ [nextW F blk (wL blk i) i]
def rnd (k w : BitVec m) (s : St8 m) : St8 m :=
  let t := s.h + bigT F.E s.e + ((s.e &&& s.f) ^^^ (~~~s.e &&& s.g)) + k + w
  ⟨t + bigT F.A s.a + ((s.a &&& s.b) ^^^ (s.a &&& s.c) ^^^ (s.b &&& s.c)), s.a, s.b, s.c, s.d + t, s.e, s.f, s.g⟩
def rnds (ws : List (BitVec m)) (s : St8 m) : Nat → St8 m
  | 0 => s
  | i + 1 => rnd F (F.k i) (ws.getD i 0) (rnds ws s i)
def St8.add (s t : St8 m) : St8 m := ⟨s.a + t.a, s.b + t.b, s.c + t.c, s.d + t.d, s.e + t.e, s.f + t.f, s.g + t.g, s.h + t.h⟩
def comp (s : St8 m) (blk : List UInt8) : St8 m := s.add (rnds F (wL F blk F.R) s F.R)
def runB : Nat → St8 m → List UInt8 → St8 m
  | 0, s, _ => s
  | n + 1, s, l => runB n (comp F s (l.take (2 * m))) (l.drop (2 * m))
def dgN (s : St8 m) : Nat → Nat := fun p => wn (s.at (p / (m / 8))) / 2 ^ (m - 8 - 8 * (p % (m / 8))) % 256
def dgB (s : St8 m) : List UInt8 := (List.range m).map fun p => UInt8.ofNat (dgN s p)
theorem wL_length (blk : List UInt8) : ∀ i, (wL F blk i).length = i
  | 0 => rfl
  | i + 1 => by simp [wL, wL_length blk i]
theorem wL_getD (blk : List UInt8) {i k : Nat} (h : k < i) : ∀ {j}, i ≤ j → (wL F blk j).getD k 0 = (wL F blk i).getD k 0
  | 0, hj => by omega
  | j + 1, hj => by
    by_cases e : i = j + 1
    · subst e; rfl
    · rw [← wL_getD blk h (j := j) (by omega)]
      simp only [wL]
      have hl := wL_length F blk j
      rw [List.getD_eq_getElem?_getD, List.getD_eq_getElem?_getD, List.getElem?_append_left (by omega)]
theorem wL_last (blk : List UInt8) (i : Nat) : (wL F blk (i + 1)).getD i 0 = nextW F blk (wL F blk i) i := by
  have hl := wL_length F blk i
  simp only [wL]
  rw [List.getD_eq_getElem?_getD, List.getElem?_append_right (by omega), hl]
  simp
def wA (blk : List UInt8) (i : Nat) : Nat → Nat := fun k => wn ((wL F blk i).getD k 0)
theorem wA_zero (blk : List UInt8) : wA F blk 0 = fun _ => 0 := by funext k; simp [wA, wL, wn]
theorem wL_upd (blk : List UInt8) (i : Nat) : upd (wA F blk i) i (wn (nextW F blk (wL F blk i) i)) = wA F blk (i + 1) := by
  funext k
  simp only [upd, wA]
  have hl := wL_length F blk i
  by_cases h : k = i
  · subst h; rw [if_pos rfl, wL_last]
  · rw [if_neg h]
    by_cases h2 : k < i
    · rw [wL_getD F blk h2 (j := i + 1) (by omega)]
    · rw [List.getD_eq_getElem?_getD, List.getD_eq_getElem?_getD, List.getElem?_eq_none (by omega), List.getElem?_eq_none (by rw [wL_length]; omega)]
theorem runB_add : ∀ (i j : Nat) (s : St8 m) (l : List UInt8), runB F (i + j) s l = runB F j (runB F i s l) (l.drop (2 * m * i))
  | 0, j, s, l => by simp [runB]
  | i + 1, j, s, l => by
    rw [show i + 1 + j = (i + j) + 1 by omega]
    simp only [runB]
    rw [runB_add i j, List.drop_drop, Nat.mul_succ, Nat.add_comm]
theorem runB_append : ∀ (i : Nat) (s : St8 m) (l x : List UInt8), 2 * m * i ≤ l.length → runB F i s (l ++ x) = runB F i s l
  | 0, _, _, _, _ => rfl
  | i + 1, s, l, x, h => by
    rw [Nat.mul_succ] at h
    simp only [runB]
    rw [List.take_append_of_le_length (by omega), List.drop_append_of_le_length (by omega), runB_append i _ _ _ (by simp; omega)]
def rst (m : Nat) (s : List UInt8) : List UInt8 := s.drop (2 * m * (s.length / (2 * m)))
def hst (s : List UInt8) : St8 m := runB F (s.length / (2 * m)) F.h0 s
theorem rst_len (s : List UInt8) : (rst m s).length = s.length % (2 * m) := by
  have := Nat.mod_add_div s.length (2 * m)
  simp only [rst, List.length_drop]; omega
theorem hst_append (s b : List UInt8) (hm : 0 < m) : runB F ((rst m s ++ b).length / (2 * m)) (hst F s) (rst m s ++ b) = hst F (s ++ b) ∧ (rst m s ++ b).drop (2 * m * ((rst m s ++ b).length / (2 * m))) = rst m (s ++ b) := by
  have h1 := Nat.mod_add_div s.length (2 * m)
  have hle : 2 * m * (s.length / (2 * m)) ≤ s.length := Nat.mul_div_le _ _
  have e : (s ++ b).length / (2 * m) = s.length / (2 * m) + (rst m s ++ b).length / (2 * m) := by
    rw [List.length_append, List.length_append, rst_len]
    conv => lhs; rw [← h1, Nat.add_right_comm, Nat.add_mul_div_left _ _ (by omega), Nat.add_comm]
  have e2 : (s ++ b).drop (2 * m * (s.length / (2 * m))) = rst m s ++ b := by
    rw [List.drop_append_of_le_length hle]; rfl
  refine ⟨?_, ?_⟩
  · simp only [hst]
    rw [e, runB_add, e2, runB_append F _ _ _ _ hle]
  · conv => rhs; unfold rst
    rw [e, Nat.mul_add, ← List.drop_drop, e2]
end
def shaW : List Nat := [4794697086780616226, 8158064640168781261, 13096744586834688815, 16840607885511220156, 4131703408338449720, 6480981068601479193, 10538285296894168987, 12329834152419229976, 15566598209576043074, 1334009975649890238, 2608012711638119052, 6128411473006802146, 8268148722764581231, 9286055187155687089, 11230858885718282805, 13951009754708518548, 16472876342353939154, 17275323862435702243, 1135362057144423861, 2597628984639134821, 3308224258029322869, 5365058923640841347, 6679025012923562964, 8573033837759648693, 10970295158949994411, 12119686244451234320, 12683024718118986047, 13788192230050041572, 14330467153632333762, 15395433587784984357, 489312712824947311, 1452737877330783856, 2861767655752347644, 3322285676063803686, 5560940570517711597, 5996557281743188959, 7280758554555802590, 8532644243296465576, 9350256976987008742, 10552545826968843579, 11727347734174303076, 12113106623233404929, 14000437183269869457, 14369950271660146224, 15101387698204529176, 15463397548674623760, 17586052441742319658, 1182934255886127544, 1847814050463011016, 2177327727835720531, 2830643537854262169, 3796741975233480872, 4115178125766777443, 5681478168544905931, 6601373596472566643, 7507060721942968483, 8399075790359081724, 8693463985226723168, 9568029438360202098, 10144078919501101548, 10430055236837252648, 11840083180663258601, 13761210420658862357, 14299343276471374635, 14566680578165727644, 15097957966210449927, 16922976911328602910, 17689382322260857208, 500013540394364858, 748580250866718886, 1242879168328830382, 1977374033974150939, 2944078676154940804, 3659926193048069267, 4368137639120453308, 4836135668995329356, 5532061633213252278, 6448918945643986474, 6902733635092675308, 7801388544844847127]
def shaS : List Nat := [7640891576956012808, 13503953896175478587, 4354685564936845355, 11912009170470909681, 5840696475078001361, 11170449401992604703, 2270897969802886507, 6620516959819538809]
def F64 : Sha 64 := ⟨80, (28, 34, 39), (14, 18, 41), (1, 8, 7), (19, 61, 6), fun i => BitVec.ofNat 64 (shaW.getD i 0), ⟨BitVec.ofNat 64 7640891576956012808, BitVec.ofNat 64 13503953896175478587, BitVec.ofNat 64 4354685564936845355, BitVec.ofNat 64 11912009170470909681, BitVec.ofNat 64 5840696475078001361, BitVec.ofNat 64 11170449401992604703, BitVec.ofNat 64 2270897969802886507, BitVec.ofNat 64 6620516959819538809⟩⟩
theorem wrap_b32 (b : UInt8) : IntKind.u32.wrap (b.toNat : Nat) = (b.toNat : Nat) := by rw [wrapu32]; have := b.toNat_lt; congr 1; omega
theorem wrap_b64 (b : UInt8) : IntKind.u64.wrap (b.toNat : Nat) = (b.toNat : Nat) := by rw [wrapu64]; have := b.toNat_lt; congr 1; omega
def hC {m : Nat} (K : IntKind) (s : St8 m) (j o l n : Nat) : List AV := [.int K (wn s.a : Nat), .int K (wn s.b : Nat), .int K (wn s.c : Nat), .int K (wn s.d : Nat), .int K (wn s.e : Nat), .int K (wn s.f : Nat), .int K (wn s.g : Nat), .int K (wn s.h : Nat), .slice 1 j o l none, .int .u64 (n : Nat)]
def hM {m : Nat} (K : IntKind) (i : Nat) (s t : St8 m) (o l n : Nat) : List AV := [.int K (if 0 < i then wn (s.a + t.a) else wn s.a : Nat), .int K (if 1 < i then wn (s.b + t.b) else wn s.b : Nat), .int K (if 2 < i then wn (s.c + t.c) else wn s.c : Nat), .int K (if 3 < i then wn (s.d + t.d) else wn s.d : Nat), .int K (if 4 < i then wn (s.e + t.e) else wn s.e : Nat), .int K (if 5 < i then wn (s.f + t.f) else wn s.f : Nat), .int K (if 6 < i then wn (s.g + t.g) else wn s.g : Nat), .int K (if 7 < i then wn (s.h + t.h) else wn s.h : Nat), .slice 1 1 o l none, .int .u64 (n : Nat)]
def hsh {m : Nat} (F : Sha m) (K : IntKind) (T j : Nat) (st pre : List UInt8) (n : Nat) : Option Blk := some ⟨hC K (hst F st) j pre.length (rst m st).length n, T, true⟩
def dat (m T8 : Nat) (st pre : List UInt8) : Option Blk := some ⟨(pre ++ rst m st).map bv, T8, false⟩
def pre2 (m : Nat) (st b : List UInt8) : List UInt8 := (rst m st ++ b).take (2 * m * ((rst m st ++ b).length / (2 * m)))
theorem pre2_rst {m : Nat} (hm : 0 < m) (st b : List UInt8) : pre2 m st b ++ rst m (st ++ b) = rst m st ++ b := by
  have h := (hst_append (m := m) (F := (⟨0, (0, 0, 0), (0, 0, 0), (0, 0, 0), (0, 0, 0), fun _ => 0, ⟨0, 0, 0, 0, 0, 0, 0, 0⟩⟩ : Sha m)) st b hm).2
  rw [pre2, ← h, List.take_append_drop]
theorem pre2_len {m : Nat} (st b : List UInt8) : (pre2 m st b).length = 2 * m * ((rst m st ++ b).length / (2 * m)) := by
  simp only [pre2, List.length_take]
  exact Nat.min_eq_left (Nat.mul_div_le _ _)
theorem runB_succ {m : Nat} (F : Sha m) (k : Nat) (s : St8 m) (l : List UInt8) : runB F (k + 1) s l = comp F (runB F k s l) ((l.drop (2 * m * k)).take (2 * m)) := by
  rw [runB_add]; rfl
theorem rst_nil (m : Nat) : rst m [] = [] := by simp [rst]
def zN (B T r : Nat) : Nat := (T + B - (r + 1) % B) % B
def be8 (x : Nat) : List UInt8 := (List.range 8).map fun i => UInt8.ofNat (x / 2 ^ (56 - 8 * i))
def tailB (m n : Nat) : List UInt8 := (128 :: List.replicate (zN (2 * m) (14 * (m / 8)) (n % (2 * m))) 0) ++ (if m = 64 then List.replicate 8 0 else []) ++ be8 (8 * n)
def dgst {m : Nat} (F : Sha m) (st : List UInt8) : List UInt8 := dgB (hst F (st ++ tailB m st.length))
theorem zN_64 (r j : Nat) (hr : r < 64) (hj : j ≤ zN 64 56 r) : (r + (1 + j)) % 64 = 56 ↔ j = zN 64 56 r := by
  simp only [zN] at *; omega
theorem zN_128 (r j : Nat) (hr : r < 128) (hj : j ≤ zN 128 112 r) : (r + (1 + j)) % 128 = 112 ↔ j = zN 128 112 r := by
  simp only [zN] at *; omega
theorem zN_lt (B T r : Nat) (h : 0 < B) : zN B T r < B := Nat.mod_lt _ h
theorem be8_len (x : Nat) : (be8 x).length = 8 := by simp [be8]
theorem cells_at {m : Nat} (K : IntKind) (s : St8 m) {i : Nat} (h : i < 8) : (s.cells K)[i]? = some (.int K (wn (s.at i) : Nat)) := by
  match i, h with
  | 0, _ => rfl
  | 1, _ => rfl
  | 2, _ => rfl
  | 3, _ => rfl
  | 4, _ => rfl
  | 5, _ => rfl
  | 6, _ => rfl
  | 7, _ => rfl
@[simp] theorem idsL_repI (q : Nat → Bool) (k : Nat) (K : IntKind) (n : Int) : idsL q (List.replicate k (.int K n)) = true := idsL_rep k _ (by simp [AV.ids])
@[simp] theorem ltL_repI (n : Nat) (k : Nat) (K : IntKind) (i : Int) : ltL n (List.replicate k (.int K i)) = true := ltL_rep n k _ (by simp [AV.ltI])
@[simp] theorem cleanL_repI (k : Nat) (K : IntKind) (i : Int) : cleanL (List.replicate k (.int K i)) = true := cleanL_rep k _ (by simp [AV.clean])
@[simp] theorem subL_repI (s : Nat → Nat → Nat → Nat → Option Nat → AV) (p : Nat → Nat → AV) (k : Nat) (K : IntKind) (i : Int) : subL s p (List.replicate k (.int K i)) = List.replicate k (.int K i) := subL_rep k _ (by simp [AV.sub])
def beP (x i : Nat) : List UInt8 := (List.range i).map fun i => UInt8.ofNat (x / 2 ^ (56 - 8 * i))
theorem beP_succ (x i : Nat) : beP x (i + 1) = beP x i ++ [UInt8.ofNat (x / 2 ^ (56 - 8 * i))] := by simp [beP, List.range_succ]
theorem beP_len (x i : Nat) : (beP x i).length = i := by simp [beP]
theorem beP_byte (x i : Nat) (s : Nat) (hs : s = 56 - 8 * i) : IntKind.u8.wrap (((x : Nat) : Int).fdiv (2 ^ (min s 64))) = ((UInt8.ofNat (x / 2 ^ (56 - 8 * i))).toNat : Int) := by
  rw [show min s 64 = 56 - 8 * i by omega, shr_nat, wrap8_u8]
theorem dgB_arr {m : Nat} (s : St8 m) : arr .u8 m (dgN s) = (dgB s).map bv := by
  refine List.ext_getElem (by simp [dgB]) fun k h1 h2 => ?_
  simp [dgB, bv]
  simp only [dgN]; omega
@[simp] theorem ltL_cells {m : Nat} (n : Nat) (K : IntKind) (s : St8 m) : ltL n (s.cells K) = true := by simp [St8.cells, ltL, AV.ltI]
@[simp] theorem idsL_cells {m : Nat} (q : Nat → Bool) (K : IntKind) (s : St8 m) : idsL q (s.cells K) = true := by simp [St8.cells, idsL, AV.ids]
@[simp] theorem cleanL_cells {m : Nat} (K : IntKind) (s : St8 m) : cleanL (s.cells K) = true := by simp [St8.cells, cleanL, AV.clean]
@[simp] theorem cells_length {m : Nat} (K : IntKind) (s : St8 m) : (s.cells K).length = 8 := by simp [St8.cells]
instance : Inhabited Md := ⟨⟨false, false, false⟩⟩
def lsV (x : Md × List UInt8) : AV := .list 1 x.1 (x.2.map bv)
@[simp] theorem ltL_lsV (n : Nat) (l : List (Md × List UInt8)) : ltL n (l.map lsV) = true := ltL_map _ fun x => by simp [lsV, AV.ltI, ltL_bv]
@[simp] theorem idsL_lsV (q : Nat → Bool) (l : List (Md × List UInt8)) : idsL q (l.map lsV) = true := idsL_map _ fun x => by simp [lsV, AV.ids, idsL_bv]
@[simp] theorem subL_lsV (s : Nat → Nat → Nat → Nat → Option Nat → AV) (p : Nat → Nat → AV) (l : List (Md × List UInt8)) : subL s p (l.map lsV) = l.map lsV := subL_map _ fun x => by simp [lsV, AV.sub, subL_bv]
def allB (l : List (Md × List UInt8)) : List UInt8 := l.flatMap (·.2)
theorem allB_take (l : List (Md × List UInt8)) (i : Nat) (h : i < l.length) : allB (l.take (i + 1)) = allB (l.take i) ++ l[i].2 := by
  simp only [allB]
  rw [List.take_succ_eq_append_getElem h, List.flatMap_append]
  simp
theorem allB_le (l : List (Md × List UInt8)) (i : Nat) : (allB (l.take i)).length ≤ (allB l).length := by
  have e : allB l = allB (l.take i) ++ allB (l.drop i) := by
    simp only [allB]
    rw [← List.flatMap_append, List.take_append_drop]
  rw [e, List.length_append]; omega
@[simp] theorem dgst_len {m : Nat} (F : Sha m) (st : List UInt8) : (dgst F st).length = m := by simp [dgst, dgB]
theorem beN_snoc (l : List UInt8) (b : UInt8) : beN (l ++ [b]) = beN l * 256 + b.toNat := by simp [beN, List.foldl_append]
theorem beN_lt (l : List UInt8) : beN l < 256 ^ l.length := by
  have h : ∀ (r : List UInt8), beN r.reverse < 256 ^ r.length := by
    intro r
    induction r with
    | nil => simp [beN]
    | cons b r ih =>
      rw [List.reverse_cons, beN_snoc, List.length_cons, Nat.pow_succ]
      have := b.toNat_lt
      omega
  have := h l.reverse
  simpa using this
end Go.Fw
namespace Go.Fw
section
variable {m : Nat}
theorem ch_or (e f g : BitVec m) : (e &&& f) ||| (~~~e &&& g) = (e &&& f) ^^^ (~~~e &&& g) := by
  ext i hi
  simp only [BitVec.getElem_or, BitVec.getElem_xor, BitVec.getElem_and, BitVec.getElem_not]
  cases e[i] <;> cases f[i] <;> cases g[i] <;> rfl
theorem mj_or (a b c : BitVec m) : (a &&& b) ||| (a &&& c) ||| (b &&& c) = (a &&& b) ^^^ (a &&& c) ^^^ (b &&& c) := by
  ext i hi
  simp only [BitVec.getElem_or, BitVec.getElem_xor, BitVec.getElem_and]
  cases a[i] <;> cases b[i] <;> cases c[i] <;> rfl
theorem wn_lt (x : BitVec m) : wn x < 2 ^ m := x.isLt
theorem wn_add (x y : BitVec m) : wn (x + y) = (wn x + wn y) % 2 ^ m := BitVec.toNat_add x y
theorem turn_val (hm : m ≤ 64) (x : BitVec m) (n : Nat) (hn : n < m) : ((wn x / 2 ^ n) ||| (wn x * 2 ^ (m - n) % 2 ^ 64)) % 2 ^ m = wn (x.rotateRight n) := by
  rw [← rotr_eq x n hn]
  simp only [wn, BitVec.toNat_or, BitVec.toNat_ushiftRight, BitVec.toNat_shiftLeft, Nat.shiftRight_eq_div_pow, Nat.shiftLeft_eq]
  rw [Nat.or_mod_two_pow, Nat.mod_mod_of_dvd _ (Nat.pow_dvd_pow 2 hm), Nat.mod_eq_of_lt (Nat.lt_of_le_of_lt (Nat.div_le_self _ _) x.isLt), Nat.or_comm]
theorem not_val (hm : m ≤ 64) (x : BitVec m) : ((2 ^ 64 - 1) ^^^ wn x) % 2 ^ m = wn (~~~x) := by
  have e : (2 ^ 64 - 1) % 2 ^ m = 2 ^ m - 1 := by
    have h1 : 1 ≤ 2 ^ (64 - m) := Nat.one_le_two_pow
    have h2 : (2 : Nat) ^ 64 = 2 ^ m * 2 ^ (64 - m) := by rw [← Nat.pow_add]; congr 1; omega
    obtain ⟨c, hc⟩ := Nat.exists_eq_add_of_le h1
    have h3 : 0 < 2 ^ m := Nat.pow_pos (by decide)
    rw [h2, hc, Nat.mul_add, Nat.mul_one, show 2 ^ m + 2 ^ m * c - 1 = (2 ^ m - 1) + 2 ^ m * c by omega, Nat.add_mul_mod_self_left, Nat.mod_eq_of_lt (by omega)]
  rw [Nat.xor_mod_two_pow, e, Nat.mod_eq_of_lt (wn_lt x)]
  have h := congrArg BitVec.toNat (BitVec.allOnes_xor (x := x))
  rw [BitVec.toNat_xor, BitVec.toNat_allOnes] at h
  exact h
end
end Go.Fw
namespace Go.Fw
section
variable {m : Nat}
structure OkF (F : Sha m) : Prop where
  R : F.R ≤ 80
  A : (0 < F.A.1 ∧ F.A.1 < m) ∧ (0 < F.A.2.1 ∧ F.A.2.1 < m) ∧ (0 < F.A.2.2 ∧ F.A.2.2 < m)
  E : (0 < F.E.1 ∧ F.E.1 < m) ∧ (0 < F.E.2.1 ∧ F.E.2.1 < m) ∧ (0 < F.E.2.2 ∧ F.E.2.2 < m)
  s0 : (0 < F.s0.1 ∧ F.s0.1 < m) ∧ (0 < F.s0.2.1 ∧ F.s0.2.1 < m) ∧ F.s0.2.2 < m
  s1 : (0 < F.s1.1 ∧ F.s1.1 < m) ∧ (0 < F.s1.2.1 ∧ F.s1.2.1 < m) ∧ F.s1.2.2 < m
  k : ∀ i, i < F.R → shaW.getD i 0 / 2 ^ (64 - m) = wn (F.k i)
  h0 : ∀ i, i < 8 → shaS.getD i 0 / 2 ^ (64 - m) = wn (F.h0.at i)
def lnB (m L i : Nat) : List UInt8 := (List.range i).map fun i => if m / 4 - 1 - i < 8 then UInt8.ofNat (8 * L / 2 ^ (8 * (m / 4 - 1 - i))) else 0
theorem lnB_succ (m L i : Nat) : lnB m L (i + 1) = lnB m L i ++ [if m / 4 - 1 - i < 8 then UInt8.ofNat (8 * L / 2 ^ (8 * (m / 4 - 1 - i))) else 0] := by simp [lnB, List.range_succ]
theorem lnB_len (m L i : Nat) : (lnB m L i).length = i := by simp [lnB]
theorem lnB_all (L : Nat) : (m = 32 ∨ m = 64) → lnB m L (m / 4) = (if m = 64 then List.replicate 8 0 else []) ++ be8 (8 * L) := by
  rintro (rfl | rfl) <;> rfl
def wV (x : BitVec m) : AV := .int .u64 (wn x : Nat)
section
variable (l : List (BitVec m))
@[simp] theorem cleanL_wV : cleanL (l.map wV) = true := cleanL_map _ fun x => by simp [wV, AV.clean]
@[simp] theorem ltL_wV (n : Nat) : ltL n (l.map wV) = true := ltL_map _ fun x => by simp [wV, AV.ltI]
@[simp] theorem idsL_wV (q : Nat → Bool) : idsL q (l.map wV) = true := idsL_map _ fun x => by simp [wV, AV.ids]
@[simp] theorem subL_wV (s : Nat → Nat → Nat → Nat → Option Nat → AV) (p : Nat → Nat → AV) : subL s p (l.map wV) = l.map wV := subL_map _ fun x => by simp [wV, AV.sub]
end
def St8.ws (s : St8 m) : List (BitVec m) := [s.a, s.b, s.c, s.d, s.e, s.f, s.g, s.h]
theorem ws_at (s : St8 m) {i : Nat} (h : i < 8) : s.ws[i]? = some (s.at i) := by
  match i, h with
  | 0, _ => rfl
  | 1, _ => rfl
  | 2, _ => rfl
  | 3, _ => rfl
  | 4, _ => rfl
  | 5, _ => rfl
  | 6, _ => rfl
  | 7, _ => rfl
theorem ws_take (s : St8 m) {i : Nat} (h : i < 8) : s.ws.take (i + 1) = s.ws.take i ++ [s.at i] := by
  rw [List.take_add_one, ws_at s h]; rfl
def hX (i : Nat) (s t : St8 m) : List (BitVec m) := [if 0 < i then s.a + t.a else s.a, if 1 < i then s.b + t.b else s.b, if 2 < i then s.c + t.c else s.c, if 3 < i then s.d + t.d else s.d, if 4 < i then s.e + t.e else s.e, if 5 < i then s.f + t.f else s.f, if 6 < i then s.g + t.g else s.g, if 7 < i then s.h + t.h else s.h]
theorem dgB_take (s : St8 m) {p : Nat} (h : p < m) : (dgB s).take (p + 1) = (dgB s).take p ++ [UInt8.ofNat (dgN s p)] := by
  rw [List.take_add_one]
  congr 1
  simp [dgB, h]
end
theorem okF64 : OkF F64 where
  R := by decide
  A := by decide
  E := by decide
  s0 := by decide
  s1 := by decide
  k := by decide +kernel
  h0 := by decide +kernel
end Go.Fw
namespace Go.Fw
section
variable {m : Nat}
@[simp] theorem ws_len (s : St8 m) : s.ws.length = 8 := by simp [St8.ws]
theorem wsm_take (s : St8 m) {i : Nat} (h : i < 8) : (s.ws.map wV).take (i + 1) = (s.ws.map wV).take i ++ [.int .u64 (wn (s.at i) : Nat)] := by
  rw [← List.map_take, ws_take s h, List.map_append, List.map_take]; rfl
theorem wsm_all (s : St8 m) : (s.ws.map wV).take 8 = s.ws.map wV := List.take_of_length_le (by simp)
end
end Go.Fw
namespace Go.Fw
section
variable {P : Program} {L : Nat} {k : List It} {e : Env} {H : Heap} {Q : Post} {v : Option AV} {t : Nat} {ca cb : KCode}
theorem WC_joinQ (e1 : Env) (H1 : Heap) {c : KCode} (h1 : W P L (.c c :: k) e1 H1 Q) (h2 : ∀ k', W P L k' e1 H1 Q → WC P L v t ca cb e H k' Q) : WC P L v t ca cb e H (.c c :: k) Q := h2 _ h1
end
end Go.Fw
namespace Go.Fw
theorem sum_cut {m : Nat} (hm : m = 32 ∨ m = 64) (a b c d e f g : Nat) : ((((((a + b) % 2 ^ 64 + c) % 2 ^ 64 + d) % 2 ^ 64 + e) % 2 ^ 64 + (f + g) % 2 ^ 64) % 2 ^ 64) % 2 ^ m = ((((((a + b) % 2 ^ m + c) % 2 ^ m + d) % 2 ^ m + e) % 2 ^ m + f) % 2 ^ m + g) % 2 ^ m := by
  rcases hm with rfl | rfl <;> omega
theorem sum_cut2 {m : Nat} (hm : m = 32 ∨ m = 64) (x a b c d e : Nat) : ((x + ((((a + b) % 2 ^ 64 + c) % 2 ^ 64 + d) % 2 ^ 64 + e) % 2 ^ 64) % 2 ^ 64) % 2 ^ m = (x + ((((a + b) % 2 ^ m + c) % 2 ^ m + d) % 2 ^ m + e) % 2 ^ m) % 2 ^ m := by
  rcases hm with rfl | rfl <;> omega
theorem sum_cut3 {m : Nat} (hm : m = 32 ∨ m = 64) (a b : Nat) : ((a + b) % 2 ^ 64) % 2 ^ m = (a + b) % 2 ^ m := by
  rcases hm with rfl | rfl <;> omega
theorem not_raw {m : Nat} (x : BitVec m) (hm : m ≤ 64) : bitI .xor .u64 (if IntKind.u64.signed then -1 else IntKind.u64.max) (wn x : Nat) = (((2 ^ 64 - 1) ^^^ wn x : Nat) : Int) :=
  bitI_xor (k := .u64) rfl (a := 2 ^ 64 - 1) (b := wn x) (by decide) (Nat.lt_of_lt_of_le (wn_lt x) (Nat.pow_le_pow_right (by decide) hm))
end Go.Fw
namespace Go.Fw
section
variable {m : Nat} (s t : St8 m)
theorem hX_at {i : Nat} (h : i < 8) : (hX i s t)[i]? = some (s.at i) := by
  match i, h with
  | 0, _ => rfl
  | 1, _ => rfl
  | 2, _ => rfl
  | 3, _ => rfl
  | 4, _ => rfl
  | 5, _ => rfl
  | 6, _ => rfl
  | 7, _ => rfl
theorem hX_set {i : Nat} (h : i < 8) : ((hX i s t).map wV).set i (.int .u64 (wn (s.at i + t.at i) : Nat)) = (hX (i + 1) s t).map wV := by
  match i, h with
  | 0, _ => rfl
  | 1, _ => rfl
  | 2, _ => rfl
  | 3, _ => rfl
  | 4, _ => rfl
  | 5, _ => rfl
  | 6, _ => rfl
  | 7, _ => rfl
theorem hX_zero : hX 0 s t = s.ws := rfl
theorem hX_eight : hX 8 s t = (s.add t).ws := rfl
@[simp] theorem hX_len (i : Nat) : (hX i s t).length = 8 := by simp [hX]
end
end Go.Fw
namespace Go.Fw
def dig (n k : Nat) : Nat := n / 32768 ^ k % 32768
def vs (g : Nat → Nat) : Nat → Nat
  | 0 => 0
  | n + 1 => vs g n + g n * 32768 ^ n
theorem dig_lt (n k : Nat) : dig n k < 32768 := Nat.mod_lt _ (by decide)
theorem vs_dig (n : Nat) : ∀ m, vs (dig n) m = n % 32768 ^ m
  | 0 => by simp [vs, Nat.mod_one]
  | m + 1 => by
    rw [vs, vs_dig n m, dig, Nat.pow_succ, Nat.mod_mul, Nat.mul_comm]
theorem vs_ext {g h : Nat → Nat} : ∀ {m : Nat}, (∀ k, k < m → g k = h k) → vs g m = vs h m
  | 0, _ => rfl
  | m + 1, e => by rw [vs, vs, vs_ext (m := m) (fun k hk => e k (by omega)), e m (by omega)]
theorem vs_lt {g : Nat → Nat} : ∀ {m : Nat}, (∀ k, k < m → g k < 32768) → vs g m < 32768 ^ m
  | 0, _ => by simp [vs]
  | m + 1, e => by
    have h1 := vs_lt (g := g) (m := m) (fun k hk => e k (by omega))
    have h2 := e m (by omega)
    rw [vs, Nat.pow_succ]
    have : g m * 32768 ^ m ≤ 32767 * 32768 ^ m := Nat.mul_le_mul_right _ (by omega)
    omega
theorem dig_vs {g : Nat → Nat} : ∀ {m : Nat}, (∀ k, k < m → g k < 32768) → ∀ k, k < m → dig (vs g m) k = g k
  | 0, _, k, hk => by omega
  | m + 1, e, k, hk => by
    have h1 := vs_lt (g := g) (m := m) (fun k hk => e k (by omega))
    have h2 := e m (by omega)
    have hp : 0 < 32768 ^ m := Nat.pow_pos (by decide)
    rw [vs]
    by_cases hkm : k = m
    · subst hkm
      rw [dig, Nat.add_mul_div_right _ _ hp, Nat.div_eq_of_lt h1, Nat.zero_add, Nat.mod_eq_of_lt h2]
    · have ih := dig_vs (m := m) (fun k hk => e k (by omega)) k (by omega)
      rw [← ih, dig, dig]
      have hq : (0 : Nat) < 32768 ^ k := Nat.pow_pos (by decide)
      have : g m * 32768 ^ m = 32768 ^ k * (32768 * (g m * 32768 ^ (m - k - 1))) := by
        rw [show m = k + 1 + (m - k - 1) by omega, Nat.pow_add, Nat.pow_add, show k + 1 + (m - k - 1) - k - 1 = m - k - 1 by omega]
        simp only [Nat.pow_one]
        ac_rfl
      rw [this, Nat.add_mul_div_left _ _ hq, Nat.add_mul_mod_self_left]
theorem vs_upd {g : Nat → Nat} {i v : Nat} : ∀ {m : Nat}, m ≤ i → vs (upd g i v) m = vs g m
  | 0, _ => rfl
  | m + 1, h => by rw [vs, vs, vs_upd (m := m) (by omega), upd, if_neg (by omega)]
theorem vs_upd_add {g : Nat → Nat} {i v : Nat} : ∀ {m : Nat}, i < m → vs (upd g i (g i + v)) m = vs g m + v * 32768 ^ i
  | 0, h => by omega
  | m + 1, h => by
    by_cases hi : i = m
    · subst hi
      rw [vs, vs, vs_upd (Nat.le_refl _), upd, if_pos rfl, Nat.add_mul]
      omega
    · rw [vs, vs, vs_upd_add (m := m) (by omega), upd, if_neg (by omega)]
      omega
theorem vs_add (g h : Nat → Nat) : ∀ m, vs (fun k => g k + h k) m = vs g m + vs h m
  | 0 => rfl
  | m + 1 => by simp only [vs, vs_add g h m, Nat.add_mul]; omega
theorem vs_mul (g : Nat → Nat) (c : Nat) : ∀ m, vs (fun k => c * g k) m = c * vs g m
  | 0 => rfl
  | m + 1 => by simp only [vs, vs_mul g c m, Nat.mul_add, Nat.mul_assoc]
theorem vs_split (g : Nat → Nat) (m : Nat) : ∀ n, vs g (m + n) = vs g m + 32768 ^ m * vs (fun k => g (m + k)) n
  | 0 => by simp [vs]
  | n + 1 => by
    rw [← Nat.add_assoc, vs, vs_split g m n, vs, Nat.mul_add, Nat.pow_add]
    have : g (m + n) * (32768 ^ m * 32768 ^ n) = 32768 ^ m * (g (m + n) * 32768 ^ n) := by ac_rfl
    omega
theorem dig_split (n k : Nat) : n / 32768 ^ k = dig n k + 32768 * (n / 32768 ^ (k + 1)) := by
  rw [dig, Nat.pow_succ, ← Nat.div_div_eq_div_mul]
  omega
theorem dig_cmp {a b k : Nat} (h : a / 32768 ^ (k + 1) = b / 32768 ^ (k + 1)) (hn : dig a k ≠ dig b k) : (a < b) = (dig a k < dig b k) := by
  have ha := dig_split a k; have hb := dig_split b k
  rw [lt_div (m := 32768 ^ k) (by rw [ha, hb, h]; omega), ha, hb, h]
  simp
theorem dig_eq {a b k : Nat} (h : a / 32768 ^ (k + 1) = b / 32768 ^ (k + 1)) (hn : dig a k = dig b k) : a / 32768 ^ k = b / 32768 ^ k := by
  rw [dig_split a k, dig_split b k, h, hn]
theorem dig_bit (n i : Nat) : dig n (i / 15) / 2 ^ (i % 15) % 2 = n / 2 ^ i % 2 := by
  have h1 : (32768 : Nat) ^ (i / 15) = 2 ^ (15 * (i / 15)) := by rw [Nat.pow_mul]
  have h2 : (32768 : Nat) = 2 ^ (i % 15) * 2 ^ (15 - i % 15) := by rw [← Nat.pow_add, show i % 15 + (15 - i % 15) = 15 by omega]
  have h3 : (2 : Nat) ^ (15 - i % 15) = 2 * 2 ^ (14 - i % 15) := by rw [show 15 - i % 15 = 1 + (14 - i % 15) by omega, Nat.pow_add]
  rw [dig, h1, h2, Nat.mod_mul_right_div_self, Nat.div_div_eq_div_mul, ← Nat.pow_add, show 15 * (i / 15) + i % 15 = i by omega, h3, Nat.mod_mul_right_mod]
def pwm (p a : Nat) : Nat → Nat → Nat
  | 0, _ => 1 % p
  | f + 1, e => if e % 2 = 1 then a * pwm p (a * a % p) f (e / 2) % p else pwm p (a * a % p) f (e / 2)
theorem pow_mod_mod (a p e : Nat) : (a % p) ^ e % p = a ^ e % p := by
  induction e with
  | zero => rfl
  | succ e ih => rw [Nat.pow_succ, Nat.pow_succ, Nat.mul_mod, ih, Nat.mod_mod, ← Nat.mul_mod]
theorem pwm_eq (p : Nat) : ∀ (f a e : Nat), e < 2 ^ f → pwm p a f e = a ^ e % p
  | 0, a, e, h => by rw [show e = 0 by simpa using h]; rfl
  | f + 1, a, e, h => by
    have ih := pwm_eq p f (a * a % p) (e / 2) (by rw [Nat.pow_succ] at h; omega)
    have e2 : (a * a) ^ (e / 2) = a ^ (2 * (e / 2)) := by rw [Nat.pow_mul, Nat.pow_two]
    rw [pow_mod_mod, e2] at ih
    rw [pwm, ih]
    split
    · rw [Nat.mul_mod_mod, Nat.mul_comm a, ← Nat.pow_succ, show (2 * (e / 2)).succ = e by omega]
    · rw [show 2 * (e / 2) = e by omega]
end Go.Fw
namespace Go.Fw
def Prm (p : Nat) : Prop := 2 ≤ p ∧ ∀ d, d ∣ p → d = 1 ∨ d = p
theorem Prm.gcd {p a : Nat} (hp : Prm p) (h : ¬ p ∣ a) : Nat.gcd p a = 1 := by
  rcases hp.2 _ (Nat.gcd_dvd_left p a) with h1 | h1
  · exact h1
  · exact absurd (h1 ▸ Nat.gcd_dvd_right p a) h
theorem Prm.mul {p a b : Nat} (hp : Prm p) (h : p ∣ a * b) : p ∣ a ∨ p ∣ b := by
  by_cases ha : p ∣ a
  · exact .inl ha
  · exact .inr (Nat.Coprime.dvd_of_dvd_mul_left (hp.gcd ha) h)
def chs : Nat → Nat → Nat
  | _, 0 => 1
  | 0, _ + 1 => 0
  | n + 1, k + 1 => chs n k + chs n (k + 1)
theorem chs_zero (n : Nat) : chs n 0 = 1 := by cases n <;> rfl
theorem chs_gt : ∀ {n k : Nat}, n < k → chs n k = 0
  | 0, k + 1, _ => rfl
  | n + 1, k + 1, h => by rw [chs, chs_gt (n := n) (k := k) (by omega), chs_gt (n := n) (k := k + 1) (by omega)]
theorem chs_self : ∀ n, chs n n = 1
  | 0 => rfl
  | n + 1 => by rw [chs, chs_self n, chs_gt (by omega)]
theorem chs_mul : ∀ n k, (k + 1) * chs (n + 1) (k + 1) = (n + 1) * chs n k
  | 0, 0 => rfl
  | 0, k + 1 => by rw [chs_gt (n := 0 + 1) (by omega), chs_gt (n := 0) (by omega), Nat.mul_zero, Nat.mul_zero]
  | n + 1, 0 => by
    have h := chs_mul n 0
    rw [chs_zero] at h ⊢
    rw [chs, chs_zero]
    omega
  | n + 1, k + 1 => by
    have h1 := chs_mul n k
    have h2 := chs_mul n (k + 1)
    rw [show chs (n + 1 + 1) (k + 1 + 1) = chs (n + 1) (k + 1) + chs (n + 1) (k + 1 + 1) from rfl, show chs (n + 1) (k + 1) = chs n k + chs n (k + 1) from rfl] at *
    rw [Nat.mul_add, h2]
    have e1 : (k + 1 + 1) * (chs n k + chs n (k + 1)) = (k + 1) * (chs n k + chs n (k + 1)) + (chs n k + chs n (k + 1)) := Nat.succ_mul _ _
    rw [e1, h1]
    have e2 : (n + 1 + 1) * (chs n k + chs n (k + 1)) = (n + 1) * (chs n k + chs n (k + 1)) + (chs n k + chs n (k + 1)) := Nat.succ_mul _ _
    rw [e2, Nat.mul_add]
    omega
theorem Prm.chs {p k : Nat} (hp : Prm p) (h1 : 0 < k) (h2 : k < p) : p ∣ chs p k := by
  obtain ⟨n, rfl⟩ : ∃ n, p = n + 1 := ⟨p - 1, by omega⟩
  obtain ⟨j, rfl⟩ : ∃ j, k = j + 1 := ⟨k - 1, by omega⟩
  have h := chs_mul n j
  rcases hp.mul (a := j + 1) (b := Go.Fw.chs (n + 1) (j + 1)) ⟨_, h⟩ with h3 | h3
  · exact absurd (Nat.le_of_dvd (by omega) h3) (by omega)
  · exact h3
def chsS (n x : Nat) : Nat → Nat
  | 0 => 0
  | m + 1 => chsS n x m + chs n m * x ^ m
theorem chsS_succ (n x : Nat) : ∀ m, chsS (n + 1) x (m + 1) = x * chsS n x m + chsS n x (m + 1)
  | 0 => by simp [chsS, chs_zero]
  | m + 1 => by
    rw [chsS, chsS_succ n x m, chsS, chsS, show chs (n + 1) (m + 1) = chs n m + chs n (m + 1) from rfl, Nat.add_mul, Nat.mul_add, Nat.pow_succ]
    have : x * (chs n m * x ^ m) = chs n m * (x ^ m * x) := by ac_rfl
    rw [chsS]
    omega
theorem chsS_pow (x : Nat) : ∀ n, chsS n x (n + 1) = (x + 1) ^ n
  | 0 => by simp [chsS, chs_zero]
  | n + 1 => by
    have h := chsS_pow x n
    rw [chsS_succ, h, chsS, h, chs_gt (by omega), Nat.pow_succ (x + 1) n, Nat.mul_add, Nat.mul_comm x]
    omega
theorem chsS_mod {p : Nat} (hp : Prm p) (x : Nat) : ∀ m, 0 < m → m ≤ p → chsS p x m % p = 1
  | 0, h, _ => by omega
  | 1, _, _ => by have := hp.1; simp only [chsS, chs_zero, Nat.pow_zero]; exact Nat.mod_eq_of_lt (by omega)
  | m + 2, _, h => by
    have ih := chsS_mod hp x (m + 1) (by omega) (by omega)
    obtain ⟨c, hc⟩ := hp.chs (k := m + 1) (by omega) (by omega)
    rw [chsS, hc, Nat.mul_assoc, Nat.add_mul_mod_self_left, ih]
theorem Prm.add_pow {p : Nat} (hp : Prm p) (x : Nat) : (x + 1) ^ p % p = (x ^ p + 1) % p := by
  have h1 := hp.1
  rw [← chsS_pow, chsS, chs_self, Nat.one_mul, Nat.add_mod, chsS_mod hp x p (by omega) (by omega), Nat.add_comm, Nat.mod_add_mod]
theorem Prm.fermat {p : Nat} (hp : Prm p) : ∀ a, a ^ p % p = a % p
  | 0 => by have := hp.1; rw [Nat.zero_pow (by omega)]
  | a + 1 => by rw [hp.add_pow, Nat.add_mod, hp.fermat a, ← Nat.add_mod]
theorem dvd_of_mod {p a b : Nat} (e : a % p = b % p) : p ∣ b - a := Nat.dvd_of_mod_eq_zero (Nat.sub_mod_eq_zero_of_mod_eq e.symm)
theorem mod_of_dvd {p a b : Nat} (hab : a ≤ b) (h : p ∣ b - a) : a % p = b % p := by
  obtain ⟨c, hc⟩ := h
  rw [show b = a + p * c by omega, Nat.add_mul_mod_self_left]
theorem mod_add_cancel {p a b : Nat} (c : Nat) (e : (a + c) % p = (b + c) % p) : a % p = b % p := by
  rcases Nat.le_total a b with hab | hab
  · have := dvd_of_mod e
    rw [Nat.add_sub_add_right] at this
    exact mod_of_dvd hab this
  · have := dvd_of_mod e.symm
    rw [Nat.add_sub_add_right] at this
    exact (mod_of_dvd hab this).symm
theorem cancel_mod {p a b c : Nat} (h : Nat.gcd p c = 1) (e : a * c % p = b * c % p) : a % p = b % p := by
  rcases Nat.le_total a b with hab | hab
  · have h1 : p ∣ (b - a) * c := by rw [Nat.sub_mul]; exact dvd_of_mod e
    exact mod_of_dvd hab (Nat.Coprime.dvd_of_dvd_mul_right h h1)
  · have h1 : p ∣ (a - b) * c := by rw [Nat.sub_mul]; exact dvd_of_mod e.symm
    exact (mod_of_dvd hab (Nat.Coprime.dvd_of_dvd_mul_right h h1)).symm
theorem Prm.fermat1 {p a : Nat} (hp : Prm p) (h : ¬ p ∣ a) : a ^ (p - 1) % p = 1 := by
  have h1 := hp.1
  have h2 := hp.fermat a
  have h3 : a ^ p = a ^ (p - 1) * a := by rw [← Nat.pow_succ, show (p - 1).succ = p by omega]
  rw [h3] at h2
  have h4 := cancel_mod (b := 1) (hp.gcd h) (by rw [h2, Nat.one_mul])
  rw [h4, Nat.mod_eq_of_lt (by omega)]
def noDiv (n : Nat) : Nat → Nat → Bool
  | 0, _ => true
  | f + 1, d => n % d != 0 && noDiv n f (d + 1)
theorem noDiv_spec (n : Nat) : ∀ f d, noDiv n f d = true → ∀ k, d ≤ k → k < d + f → ¬ k ∣ n
  | 0, d, _, k, h1, h2 => by omega
  | f + 1, d, h, k, h1, h2 => by
    simp only [noDiv, Bool.and_eq_true, bne_iff_ne, ne_eq] at h
    by_cases hk : k = d
    · subst hk; intro q; exact h.1 (Nat.mod_eq_zero_of_dvd q)
    · exact noDiv_spec n f (d + 1) h.2 k (by omega) (by omega)
theorem prm_of {n : Nat} (hn : 2 ≤ n) (h : ∀ r, Prm r → r ∣ n → ¬ r * r ≤ n) : Prm n := by
  have hex : ∀ m, 2 ≤ m → ∃ r, Prm r ∧ r ∣ m := by
    intro m
    induction m using Nat.strongRecOn with
    | ind m ih =>
      intro hm
      by_cases hd : ∃ d, d ∣ m ∧ d ≠ 1 ∧ d ≠ m
      · obtain ⟨d, h1, h2, h3⟩ := hd
        have h4 := Nat.le_of_dvd (by omega) h1
        have h5 : d ≠ 0 := fun q => by rw [q, Nat.zero_dvd] at h1; omega
        obtain ⟨r, hr, hrd⟩ := ih d (by omega) (by omega)
        exact ⟨r, hr, Nat.dvd_trans hrd h1⟩
      · refine ⟨m, ⟨hm, fun d hdm => ?_⟩, Nat.dvd_refl m⟩
        by_cases h1 : d = 1
        · exact .inl h1
        · by_cases h2 : d = m
          · exact .inr h2
          · exact absurd ⟨d, hdm, h1, h2⟩ hd
  refine ⟨hn, fun d hd => ?_⟩
  by_cases h1 : d = 1
  · exact .inl h1
  by_cases h2 : d = n
  · exact .inr h2
  exfalso
  obtain ⟨e, he⟩ := hd
  have hd0 : d ≠ 0 := fun q => by rw [q, Nat.zero_mul] at he; omega
  have he0 : e ≠ 0 := fun q => by rw [q, Nat.mul_zero] at he; omega
  have he1 : e ≠ 1 := fun q => by rw [q, Nat.mul_one] at he; omega
  rcases Nat.le_total d e with hde | hde
  · obtain ⟨r, hr, hrd⟩ := hex d (by omega)
    have := Nat.le_of_dvd (by omega) hrd
    exact h r hr (Nat.dvd_trans hrd ⟨e, he⟩) (by rw [he]; exact Nat.mul_le_mul this (by omega))
  · obtain ⟨r, hr, hrd⟩ := hex e (by omega)
    have := Nat.le_of_dvd (by omega) hrd
    exact h r hr (Nat.dvd_trans hrd ⟨d, by rw [he]; exact Nat.mul_comm _ _⟩) (by rw [he]; exact Nat.mul_le_mul (by omega) this)
theorem prm_small (n s : Nat) (hn : 2 ≤ n) (hs : n < (s + 2) * (s + 2)) (h : noDiv n s 2 = true) : Prm n := by
  refine prm_of hn fun r hr hd hle => ?_
  have h1 := hr.1
  have h2 : r < s + 2 := by
    rcases Nat.lt_or_ge r (s + 2) with q | q
    · exact q
    · have := Nat.mul_le_mul q q; omega
  exact noDiv_spec n s 2 h r h1 (by omega) hd
theorem pow_gcd {r b : Nat} (hr : 1 < r) (u v : Nat) (hu : b ^ u % r = 1) (hv : b ^ v % r = 1) : b ^ Nat.gcd u v % r = 1 := by
  induction u using Nat.strongRecOn generalizing v with
  | ind u ih =>
    by_cases h0 : u = 0
    · subst h0; rw [Nat.gcd_zero_left]; exact hv
    · rw [Nat.gcd_rec]
      refine ih (v % u) (Nat.mod_lt _ (by omega)) u ?_ hu
      have e : v = u * (v / u) + v % u := (Nat.div_add_mod v u).symm
      rw [e, Nat.pow_add, Nat.mul_mod, Nat.pow_mul, ← pow_mod_mod, hu, Nat.one_pow, Nat.mod_eq_of_lt hr, Nat.one_mul, Nat.mod_mod] at hv
      exact hv
theorem pock {n a q r : Nat} (hq : Prm q) (hqn : q ∣ n - 1) (h1 : a ^ (n - 1) % n = 1) (h2 : Nat.gcd (a ^ ((n - 1) / q) % n + (n - 1)) n = 1) (hn : 1 < n) (hr : Prm r) (hrn : r ∣ n) : q ∣ r - 1 := by
  have hr1 := hr.1
  have hmod : ∀ x, x % n % r = x % r := fun x => Nat.mod_mod_of_dvd x hrn
  have g1 : (a ^ ((n - 1) / q)) ^ q % r = 1 := by
    rw [← Nat.pow_mul, Nat.div_mul_cancel hqn, ← hmod, h1, Nat.mod_eq_of_lt (by omega)]
  have g2 : ¬ a ^ ((n - 1) / q) % r = 1 := fun h => by
    have : r ∣ a ^ ((n - 1) / q) % n + (n - 1) := by
      refine Nat.dvd_of_mod_eq_zero ?_
      rw [Nat.add_mod, hmod, h, Nat.add_mod_mod, show 1 + (n - 1) = n by omega]
      exact Nat.mod_eq_zero_of_dvd hrn
    have h3 := Nat.dvd_gcd this hrn
    rw [h2] at h3
    have := Nat.le_of_dvd (by decide) h3
    omega
  generalize a ^ ((n - 1) / q) = b at g1 g2
  have g3 : ¬ r ∣ b := fun h => by
    have hq1 := hq.1
    have : r ∣ b ^ q := by rw [show q = (q - 1) + 1 by omega, Nat.pow_succ]; exact Nat.dvd_trans h (Nat.dvd_mul_left _ _)
    rw [Nat.mod_eq_zero_of_dvd this] at g1
    omega
  have g4 := hr.fermat1 g3
  by_cases hd : q ∣ r - 1
  · exact hd
  · have g5 := pow_gcd (by omega) q (r - 1) g1 g4
    rw [hq.gcd hd, Nat.pow_one] at g5
    exact absurd g5 g2
theorem pock2 {n a q s : Nat} (hq : Prm q) (hs : Prm s) (hqs : Nat.gcd q s = 1) (hqn : q ∣ n - 1) (hsn : s ∣ n - 1) (h1 : pwm n a 256 (n - 1) = 1) (hn : 1 < n) (hb : n < 2 ^ 256) (h2 : Nat.gcd (pwm n a 256 ((n - 1) / q) + (n - 1)) n = 1) (h3 : Nat.gcd (pwm n a 256 ((n - 1) / s) + (n - 1)) n = 1) (hl : n < q * s * (q * s)) : Prm n := by
  have hm : n - 1 < 2 ^ 256 := by omega
  have hm1 : ∀ k, (n - 1) / k < 2 ^ 256 := fun k => Nat.lt_of_le_of_lt (Nat.div_le_self _ _) hm
  rw [pwm_eq _ _ _ _ hm] at h1
  rw [pwm_eq _ _ _ _ (hm1 q)] at h2
  rw [pwm_eq _ _ _ _ (hm1 s)] at h3
  refine prm_of (by omega) fun r hr hrn hle => ?_
  have d1 := pock hq hqn h1 h2 hn hr hrn
  have d2 := pock hs hsn h1 h3 hn hr hrn
  have d3 := Nat.Coprime.mul_dvd_of_dvd_of_dvd hqs d1 d2
  have := hr.1
  have d4 := Nat.le_of_dvd (by omega) d3
  have := Nat.mul_le_mul (show q * s ≤ r by omega) (show q * s ≤ r by omega)
  omega
theorem prm_127 : Prm 127 := prm_small 127 10 (by decide) (by decide) (by decide +kernel)
theorem prm_3 : Prm 3 := prm_small 3 0 (by decide) (by decide) (by decide +kernel)
theorem prm_75707 : Prm 75707 := prm_small 75707 274 (by decide) (by decide) (by decide +kernel)
theorem prm_a : Prm 1923133 := prm_small 1923133 1386 (by decide) (by decide) (by decide +kernel)
theorem prm_b : Prm 8574133 := prm_small 8574133 2927 (by decide) (by decide) (by decide +kernel)
theorem prm_c : Prm 1919519569386763 := pock2 (a := 2) prm_b prm_127 (by decide +kernel) (by decide +kernel) (by decide +kernel) (by decide +kernel) (by decide) (by decide) (by decide +kernel) (by decide +kernel) (by decide)
theorem prm_d : Prm 75445702479781427272750846543864801 := pock2 (a := 2) prm_c prm_75707 (by decide +kernel) (by decide +kernel) (by decide +kernel) (by decide +kernel) (by decide) (by decide) (by decide +kernel) (by decide +kernel) (by decide)
theorem prm_e : Prm 74058212732561358302231226437062788676166966415465897661863160754340907 := pock2 (a := 2) prm_d prm_a (by decide +kernel) (by decide +kernel) (by decide +kernel) (by decide +kernel) (by decide) (by decide) (by decide +kernel) (by decide +kernel) (by decide)
def p25 : Nat := 57896044618658097711785492504343953926634992332820282019728792003956564819949
theorem prm_p25 : Prm p25 := pock2 (n := 57896044618658097711785492504343953926634992332820282019728792003956564819949) (a := 2) prm_e prm_3 (by decide +kernel) (by decide +kernel) (by decide +kernel) (by decide +kernel) (by decide) (by decide) (by decide +kernel) (by decide +kernel) (by decide)
def isSq (a : Nat) : Bool := a % p25 == 0 || pwm p25 a 255 ((p25 - 1) / 2) == 1
end Go.Fw
namespace Go.Fw
theorem p25_pos : 0 < p25 := by decide
def rootI : Nat := 19681161376707505956807079304988542015446066515923890162744021073123829784752
def negP (a : Nat) : Nat := if a = 0 then 0 else p25 - a
def rootR (a : Nat) : Nat :=
  if pwm p25 a 256 ((p25 + 3) / 8) * pwm p25 a 256 ((p25 + 3) / 8) % p25 = a then pwm p25 a 256 ((p25 + 3) / 8) else pwm p25 a 256 ((p25 + 3) / 8) * rootI % p25
def rootF (a : Nat) : Nat × Bool :=
  if rootR a * rootR a % p25 = a then (if rootR a % 2 = 1 then negP (rootR a) else rootR a, true) else (0, false)
theorem rootI_sq : rootI * rootI % p25 = p25 - 1 := by decide +kernel
theorem m1_sq : (p25 - 1) * (p25 - 1) % p25 = 1 := by decide +kernel
theorem negP_lt (a : Nat) : negP a < p25 := by
  have := p25_pos
  unfold negP; split <;> omega
theorem rootR_lt (a : Nat) : rootR a < p25 := by
  unfold rootR; split
  · rw [pwm_eq _ _ _ _ (by decide +kernel)]; exact Nat.mod_lt _ p25_pos
  · exact Nat.mod_lt _ p25_pos
theorem neg_sq {a : Nat} (h : a ≤ p25) : (p25 - a) * (p25 - a) % p25 = a * a % p25 := by
  obtain ⟨b, hb⟩ : ∃ b, p25 = a + b := ⟨p25 - a, by omega⟩
  rw [hb, Nat.add_sub_cancel_left]
  have h1 : (b * b + a * b) % (a + b) = 0 := by rw [← Nat.add_mul, Nat.add_comm b a, Nat.mul_mod_right]
  have h2 : (a * a + a * b) % (a + b) = 0 := by rw [← Nat.mul_add, Nat.mul_mod_left]
  have h3 : (b * b + a * b) % (a + b) = (a * a + a * b) % (a + b) := by rw [h1, h2]
  exact mod_add_cancel (a * b) h3
theorem negP_sq {a : Nat} (h : a < p25) : negP a * negP a % p25 = a * a % p25 := by
  unfold negP; split
  · rename_i q; rw [q]
  · exact neg_sq (by omega)
theorem mulP_zero {a b : Nat} (h : a * b % p25 = 0) : a % p25 = 0 ∨ b % p25 = 0 := by
  rcases prm_p25.mul (Nat.dvd_of_mod_eq_zero h) with q | q
  · exact .inl (Nat.mod_eq_zero_of_dvd q)
  · exact .inr (Nat.mod_eq_zero_of_dvd q)
theorem sq_two {a b : Nat} (ha : a < p25) (hb : b < p25) (h : a * a % p25 = b * b % p25) : a = b ∨ a = negP b := by
  have h0 := p25_pos
  have h1 : ((a + b) * (a + (p25 - b))) % p25 = 0 := by
    have e : (a + b) * (a + (p25 - b)) + b * b = a * a + p25 * a + p25 * b := by
      obtain ⟨c, hc⟩ : ∃ c, p25 = b + c := ⟨p25 - b, by omega⟩
      rw [hc, Nat.add_sub_cancel_left]
      simp only [Nat.add_mul, Nat.mul_add]
      have := Nat.mul_comm a b; have := Nat.mul_comm a c; have := Nat.mul_comm b c
      omega
    have e2 : ((a + b) * (a + (p25 - b)) + b * b) % p25 = (0 + b * b) % p25 := by
      rw [e, Nat.add_assoc, ← Nat.mul_add, Nat.add_mul_mod_self_left, h, Nat.zero_add]
    have e3 := mod_add_cancel (b * b) e2
    rw [e3]; exact Nat.zero_mod _
  rcases mulP_zero h1 with q | q
  · right
    unfold negP
    split
    · rename_i z; subst z; rw [Nat.add_zero, Nat.mod_eq_of_lt ha] at q; exact q
    · rcases Nat.lt_or_ge (a + b) p25 with w | w
      · rw [Nat.mod_eq_of_lt w] at q; omega
      · rw [Nat.mod_eq_sub_mod w, Nat.mod_eq_of_lt (by omega)] at q; omega
  · left
    rcases Nat.lt_or_ge (a + (p25 - b)) p25 with w | w
    · rw [Nat.mod_eq_of_lt w] at q; omega
    · rw [Nat.mod_eq_sub_mod w] at q
      rcases Nat.lt_or_ge (a + (p25 - b) - p25) p25 with v | v
      · rw [Nat.mod_eq_of_lt v] at q; omega
      · omega
theorem one_sq {a : Nat} (ha : a < p25) (h : a * a % p25 = 1) : a = 1 ∨ a = p25 - 1 := by
  have h1 : 1 < p25 := by decide
  have := sq_two ha h1 (by rw [h, Nat.mod_eq_of_lt h1])
  rw [negP, if_neg (by decide)] at this
  exact this
theorem rootR_sq {x : Nat} (hx : x < p25) : rootR (x * x % p25) * rootR (x * x % p25) % p25 = x * x % p25 := by
  have hpos := p25_pos
  by_cases h0 : x = 0
  · subst h0; decide +kernel
  have hnd : ¬ p25 ∣ x := fun q => by have := Nat.le_of_dvd (by omega) q; omega
  have hf := prm_p25.fermat1 hnd
  obtain ⟨b, hb⟩ : ∃ b, b = (x * x) ^ ((p25 - 1) / 4) % p25 := ⟨_, rfl⟩
  have hb2 : b * b % p25 = 1 := by
    rw [hb, ← Nat.mul_mod, ← Nat.pow_add, show (p25 - 1) / 4 + (p25 - 1) / 4 = (p25 - 1) / 2 by decide, ← Nat.pow_two, ← Nat.pow_mul, show 2 * ((p25 - 1) / 2) = p25 - 1 by decide]
    exact hf
  have hb1 := one_sq (by rw [hb]; exact Nat.mod_lt _ hpos) hb2
  obtain ⟨r, hr⟩ : ∃ r, r = pwm p25 (x * x % p25) 256 ((p25 + 3) / 8) := ⟨_, rfl⟩
  have hr2 : r * r % p25 = x * x * b % p25 := by
    rw [hr, pwm_eq _ _ _ _ (by decide +kernel), pow_mod_mod, ← Nat.mul_mod, ← Nat.pow_add, show (p25 + 3) / 8 + (p25 + 3) / 8 = 1 + (p25 - 1) / 4 by decide, Nat.pow_add, Nat.pow_one, hb, Nat.mul_mod_mod]
  unfold rootR
  rw [← hr]
  split
  · rename_i h; exact h
  · rename_i h
    rcases hb1 with q | q
    · rw [q, Nat.mul_one] at hr2; exact absurd hr2 h
    · rw [← Nat.mul_mod, show r * rootI * (r * rootI) = r * r * (rootI * rootI) by ac_rfl, Nat.mul_mod, hr2, rootI_sq, q, Nat.mod_mul_mod, Nat.mul_assoc, Nat.mul_mod, m1_sq, Nat.mul_one, Nat.mod_mod]
theorem rootF_is (a : Nat) (ha : a < p25) : (rootF a).2 = isSq a := by
  have hpos := p25_pos
  have e : (rootF a).2 = decide (rootR a * rootR a % p25 = a) := by unfold rootF; split <;> simp [*]
  rw [e, Bool.eq_iff_iff, decide_eq_true_eq]
  simp only [isSq, Bool.or_eq_true, beq_iff_eq]
  rw [Nat.mod_eq_of_lt ha]
  constructor
  · intro h
    by_cases h0 : a = 0
    · exact .inl h0
    · right
      have hnd : ¬ p25 ∣ rootR a := fun q => h0 (by rw [← h, Nat.mul_mod, Nat.mod_eq_zero_of_dvd q, Nat.zero_mul, Nat.zero_mod])
      have hf := prm_p25.fermat1 hnd
      rw [pwm_eq _ _ _ _ (by decide +kernel), ← h, pow_mod_mod, ← Nat.pow_two, ← Nat.pow_mul, show 2 * ((p25 - 1) / 2) = p25 - 1 by decide]
      exact hf
  · rintro (h | h)
    · subst h; decide +kernel
    ·
      rw [pwm_eq _ _ _ _ (by decide +kernel)] at h
      obtain ⟨b, hb⟩ : ∃ b, b = a ^ ((p25 - 1) / 4) % p25 := ⟨_, rfl⟩
      have hb2 : b * b % p25 = 1 := by
        rw [hb, ← Nat.mul_mod, ← Nat.pow_add, show (p25 - 1) / 4 + (p25 - 1) / 4 = (p25 - 1) / 2 by decide, h]
      have hb1 := one_sq (by rw [hb]; exact Nat.mod_lt _ hpos) hb2
      obtain ⟨r, hr⟩ : ∃ r, r = pwm p25 a 256 ((p25 + 3) / 8) := ⟨_, rfl⟩
      have hr2 : r * r % p25 = a * b % p25 := by
        rw [hr, pwm_eq _ _ _ _ (by decide +kernel), ← Nat.mul_mod, ← Nat.pow_add, show (p25 + 3) / 8 + (p25 + 3) / 8 = 1 + (p25 - 1) / 4 by decide, Nat.pow_add, Nat.pow_one, hb, Nat.mul_mod_mod]
      unfold rootR
      rw [← hr]
      split
      · rename_i h; exact h
      · rename_i h
        rcases hb1 with q | q
        · rw [q, Nat.mul_one, Nat.mod_eq_of_lt ha] at hr2; exact absurd hr2 h
        · rw [← Nat.mul_mod, show r * rootI * (r * rootI) = r * r * (rootI * rootI) by ac_rfl, Nat.mul_mod, hr2, rootI_sq, q, Nat.mod_mul_mod, Nat.mul_assoc, Nat.mul_mod, m1_sq, Nat.mul_one, Nat.mod_mod, Nat.mod_eq_of_lt ha]
theorem rootF_no {a : Nat} (h : (rootF a).2 = false) : (rootF a).1 = 0 := by
  unfold rootF at *; split at h
  · simp at h
  · rename_i q; rw [if_neg q]
theorem rootF_yes {a : Nat} (h : (rootF a).2 = true) : (rootF a).1 % 2 = 0 ∧ (rootF a).1 < p25 ∧ (rootF a).1 * (rootF a).1 % p25 = a := by
  have hl := rootR_lt a
  unfold rootF at *; split at h
  · rename_i q
    rw [if_pos q]
    simp only
    split
    · rename_i w
      refine ⟨?_, negP_lt _, by rw [negP_sq hl, q]⟩
      unfold negP
      rw [if_neg (by omega)]
      have : p25 % 2 = 1 := by decide
      omega
    · exact ⟨by omega, hl, q⟩
  · simp at h
theorem rootF_sq {x : Nat} (hx : x < p25) : (rootF (x * x % p25)).2 = true ∧ ((rootF (x * x % p25)).1 = x ∨ (rootF (x * x % p25)).1 = negP x) := by
  have h : (rootF (x * x % p25)).2 = true := by unfold rootF; rw [if_pos (rootR_sq hx)]
  obtain ⟨_, h2, h3⟩ := rootF_yes h
  exact ⟨h, sq_two h2 hx h3⟩
end Go.Fw
namespace Go.Fw
def vb (g : Nat → Nat) : Nat → Nat
  | 0 => 0
  | n + 1 => vb g n + g n * 2 ^ (64 * n)
theorem vb_lt {g : Nat → Nat} : ∀ {m : Nat}, (∀ k, k < m → g k < 2 ^ 64) → vb g m < 2 ^ (64 * m)
  | 0, _ => by simp [vb]
  | m + 1, e => by
    have h1 := vb_lt (g := g) (m := m) (fun k hk => e k (by omega))
    have h2 := e m (by omega)
    rw [vb, Nat.mul_add, Nat.pow_add]
    have : g m * 2 ^ (64 * m) ≤ (2 ^ 64 - 1) * 2 ^ (64 * m) := Nat.mul_le_mul_right _ (by omega)
    omega
theorem wd_vb {g : Nat → Nat} : ∀ {m : Nat}, (∀ k, k < m → g k < 2 ^ 64) → ∀ k, k < m → wd (vb g m) k = g k
  | 0, _, k, hk => by omega
  | m + 1, e, k, hk => by
    have h1 := vb_lt (g := g) (m := m) (fun k hk => e k (by omega))
    have h2 := e m (by omega)
    have hp : 0 < 2 ^ (64 * m) := Nat.two_pow_pos _
    rw [vb]
    by_cases hkm : k = m
    · subst hkm
      rw [wd, Nat.add_mul_div_right _ _ hp, Nat.div_eq_of_lt h1, Nat.zero_add, Nat.mod_eq_of_lt h2]
    · have ih := wd_vb (m := m) (fun k hk => e k (by omega)) k (by omega)
      rw [← ih, wd, wd]
      have hq : 0 < 2 ^ (64 * k) := Nat.two_pow_pos _
      have : g m * 2 ^ (64 * m) = 2 ^ (64 * k) * (2 ^ 64 * (g m * 2 ^ (64 * (m - k - 1)))) := by
        rw [show 64 * m = 64 * k + 64 + 64 * (m - k - 1) by omega, Nat.pow_add, Nat.pow_add]
        ac_rfl
      rw [this, Nat.add_mul_div_left _ _ hq, Nat.add_mul_mod_self_left]
theorem vb_upd_out {g : Nat → Nat} {i v : Nat} : ∀ {m : Nat}, m ≤ i → vb (upd g i v) m = vb g m
  | 0, _ => rfl
  | m + 1, h => by rw [vb, vb, vb_upd_out (m := m) (by omega), upd, if_neg (by omega)]
theorem vb_upd {g : Nat → Nat} {i v : Nat} : ∀ {m : Nat}, i < m → vb (upd g i v) m + g i * 2 ^ (64 * i) = vb g m + v * 2 ^ (64 * i)
  | 0, h => by omega
  | m + 1, h => by
    by_cases hi : i = m
    · subst hi
      rw [vb, vb, vb_upd_out (Nat.le_refl _), upd, if_pos rfl]
      omega
    · have ih := vb_upd (g := g) (v := v) (m := m) (show i < m by omega)
      rw [vb, vb, show upd g i v m = g m from if_neg (by omega)]
      omega
theorem upd_lt {g : Nat → Nat} {i v M m : Nat} (h : ∀ k, k < m → g k < M) (hv : v < M) : ∀ k, k < m → upd g i v k < M := fun k hk => by
  unfold upd; split
  · exact hv
  · exact h k hk
theorem q4_vb {g : Nat → Nat} (h : ∀ k, k < 4 → g k < 2 ^ 64) : arr .u64 4 g = q4 (vb g 4) := by
  rw [q4_arr]; exact arr_ext fun k hk => (wd_vb h k hk).symm
theorem vb_split (g : Nat → Nat) (m : Nat) : ∀ n, vb g (m + n) = vb g m + 2 ^ (64 * m) * vb (fun k => g (m + k)) n
  | 0 => by simp [vb]
  | n + 1 => by
    rw [← Nat.add_assoc, vb, vb_split g m n, vb, Nat.mul_add, Nat.mul_add, Nat.pow_add]
    have : g (m + n) * (2 ^ (64 * m) * 2 ^ (64 * n)) = 2 ^ (64 * m) * (g (m + n) * 2 ^ (64 * n)) := by ac_rfl
    omega
theorem mul64_parts (x y : Nat) (hx : x < 2 ^ 64) (hy : y < 2 ^ 64) : x * y = (x % 2 ^ 32) * (y % 2 ^ 32) + 2 ^ 32 * ((x / 2 ^ 32) * (y % 2 ^ 32)) + 2 ^ 32 * ((x % 2 ^ 32) * (y / 2 ^ 32)) + 2 ^ 64 * ((x / 2 ^ 32) * (y / 2 ^ 32)) := by
  obtain ⟨a, b, ha, hb, rfl⟩ : ∃ a b, a < 2 ^ 32 ∧ b < 2 ^ 32 ∧ x = a + 2 ^ 32 * b := ⟨x % 2 ^ 32, x / 2 ^ 32, by omega, by omega, by omega⟩
  obtain ⟨c, d, hc, hd, rfl⟩ : ∃ c d, c < 2 ^ 32 ∧ d < 2 ^ 32 ∧ y = c + 2 ^ 32 * d := ⟨y % 2 ^ 32, y / 2 ^ 32, by omega, by omega, by omega⟩
  have e1 : (a + 2 ^ 32 * b) % 2 ^ 32 = a := by omega
  have e2 : (a + 2 ^ 32 * b) / 2 ^ 32 = b := by omega
  have e3 : (c + 2 ^ 32 * d) % 2 ^ 32 = c := by omega
  have e4 : (c + 2 ^ 32 * d) / 2 ^ 32 = d := by omega
  rw [e1, e2, e3, e4]
  rw [Nat.add_mul, Nat.mul_add, Nat.mul_add]
  have h1 : a * (2 ^ 32 * d) = 2 ^ 32 * (a * d) := by ac_rfl
  have h2 : 2 ^ 32 * b * c = 2 ^ 32 * (b * c) := by ac_rfl
  have h3 : 2 ^ 32 * b * (2 ^ 32 * d) = 2 ^ 64 * (b * d) := by rw [show (2 : Nat) ^ 64 = 2 ^ 32 * 2 ^ 32 from rfl]; ac_rfl
  omega
theorem mul32_lt {a b : Nat} (ha : a < 2 ^ 32) (hb : b < 2 ^ 32) : a * b ≤ 18446744065119617025 := by
  have := Nat.mul_le_mul (show a ≤ 4294967295 by omega) (show b ≤ 4294967295 by omega)
  omega
end Go.Fw
namespace Go.Fw
def dgw (w n k : Nat) : Nat := n / 2 ^ (w * k) % 2 ^ w
theorem dgw_put {w m i k : Nat} (hw : 0 < w) (hm : m < 2 ^ i) : dgw w (m + 2 ^ i) k = if k = i / w then dgw w m k + 2 ^ (i % w) else dgw w m k := by
  have hdm := Nat.div_add_mod i w
  have hmw := Nat.mod_lt i hw
  obtain ⟨q, hq⟩ : ∃ q, q = i / w := ⟨_, rfl⟩
  obtain ⟨r, hr⟩ : ∃ r, r = i % w := ⟨_, rfl⟩
  rw [← hq, ← hr] at hdm
  rw [← hr] at hmw
  rw [← hq, ← hr]
  have hpk : 0 < 2 ^ (w * k) := Nat.two_pow_pos _
  unfold dgw
  split
  · rename_i h
    subst h
    have e : 2 ^ i = 2 ^ (w * k) * 2 ^ r := by rw [← Nat.pow_add, hdm]
    have h1 : m / 2 ^ (w * k) < 2 ^ r := by rw [Nat.div_lt_iff_lt_mul hpk, Nat.mul_comm, ← e]; exact hm
    have h2 : 2 ^ r * 2 ≤ 2 ^ w := by rw [← Nat.pow_succ]; exact Nat.pow_le_pow_right (by decide) hmw
    rw [e, Nat.add_mul_div_left _ _ hpk, Nat.mod_eq_of_lt (by omega), Nat.mod_eq_of_lt (by omega)]
  · rename_i h
    rcases Nat.lt_or_ge k q with h1 | h1
    · have h3 : w * k + w ≤ i := by
        have := Nat.mul_le_mul_left w (show k + 1 ≤ q by omega)
        rw [Nat.mul_add, Nat.mul_one] at this
        omega
      have e : 2 ^ i = 2 ^ (w * k) * (2 ^ w * 2 ^ (i - w * k - w)) := by rw [← Nat.pow_add, ← Nat.pow_add]; congr 1; omega
      rw [e, Nat.add_mul_div_left _ _ hpk, Nat.add_mul_mod_self_left]
    · have h3 : i + 1 ≤ w * k := by
        have := Nat.mul_le_mul_left w (show q + 1 ≤ k by omega)
        rw [Nat.mul_add, Nat.mul_one] at this
        omega
      have h4 : 2 ^ (i + 1) ≤ 2 ^ (w * k) := Nat.pow_le_pow_right (by decide) h3
      rw [Nat.pow_succ] at h4
      rw [Nat.div_eq_of_lt (show m < 2 ^ (w * k) by omega), Nat.div_eq_of_lt (show m + 2 ^ i < 2 ^ (w * k) by omega)]
theorem dig_dgw (n k : Nat) : dig n k = dgw 15 n k := by unfold dig dgw; rw [Nat.pow_mul]
theorem byt_dgw (n k : Nat) : byt n k = dgw 8 n k := by unfold byt dgw; rw [Nat.pow_mul]
theorem dig_put {m i : Nat} (hm : m < 2 ^ i) : upd (dig m) (i / 15) (dig m (i / 15) + 2 ^ (i % 15)) = dig (m + 2 ^ i) := by
  funext k
  unfold upd
  rw [dig_dgw (m + 2 ^ i), dgw_put (by decide) hm]
  split
  · rename_i h; rw [h, dig_dgw]
  · rw [dig_dgw]
theorem byt_put {m i : Nat} (hm : m < 2 ^ i) : upd (byt m) (i / 8) (byt m (i / 8) + 2 ^ (i % 8)) = byt (m + 2 ^ i) := by
  funext k
  unfold upd
  rw [byt_dgw (m + 2 ^ i), dgw_put (by decide) hm]
  split
  · rename_i h; rw [h, byt_dgw]
  · rw [byt_dgw]
theorem mod_bit (n i : Nat) : n % 2 ^ (i + 1) = n % 2 ^ i + (n / 2 ^ i % 2) * 2 ^ i := by
  rw [Nat.pow_succ, Nat.mod_mul, Nat.mul_comm (2 ^ i)]
def q17 (n : Nat) : List AV := arr .i64 17 (dig n)
@[simp] theorem q17_length (n : Nat) : (q17 n).length = 17 := by simp [q17]
@[simp] theorem cleanL_q17 (n : Nat) : cleanL (q17 n) = true := cleanL_arr _ _ _
@[simp] theorem ltL_q17 (m n : Nat) : ltL m (q17 n) = true := ltL_arr _ _ _ _
@[simp] theorem idsL_q17 (q : Nat → Bool) (n : Nat) : idsL q (q17 n) = true := idsL_arr _ _ _ _
@[simp] theorem subL_q17 (s : Nat → Nat → Nat → Nat → Option Nat → AV) (p : Nat → Nat → AV) (n : Nat) : subL s p (q17 n) = q17 n := subL_arr _ _ _ _ _
@[simp] theorem take17_q17 (n : Nat) : (q17 n).take 17 = q17 n := List.take_of_length_le (by simp)
theorem q17_vs {g : Nat → Nat} (h : ∀ k, k < 17 → g k < 32768) : arr .i64 17 g = q17 (vs g 17) := arr_ext fun k hk => (dig_vs h k hk).symm
theorem two255 : (2 : Nat) ^ 255 = 32768 ^ 17 := by decide
theorem vs17 {n : Nat} (h : n < 2 ^ 255) : vs (dig n) 17 = n := by rw [vs_dig, ← two255, Nat.mod_eq_of_lt h]
theorem vs17_lt {g : Nat → Nat} (h : ∀ k, k < 17 → g k < 32768) : vs g 17 < 2 ^ 255 := by rw [two255]; exact vs_lt h
theorem q17_inj {m n : Nat} (hm : m < 2 ^ 255) (hn : n < 2 ^ 255) (h : q17 m = q17 n) : m = n := by
  rw [← vs17 hm, ← vs17 hn]; exact vs_ext (arr_inj h)
theorem ints_q17 {m n : Nat} (hm : m < 2 ^ 255) (hn : n < 2 ^ 255) : (ints (q17 m) = ints (q17 n)) = (m = n) := by
  apply propext
  constructor
  · intro h
    refine q17_inj hm hn ?_
    unfold q17 at *
    rw [ints_arr, ints_arr] at h
    refine arr_ext fun k hk => ?_
    have := congrArg (fun l => l[k]?) h
    have h2 : ((dig m k : Nat) : Int) = (dig n k : Nat) := by simpa [hk] using this
    omega
  · rintro rfl; rfl
theorem hasK_q17 (n : Nat) : hasK (List.replicate 17 .i64) (q17 n) = true := hasK_arr _ _ _
theorem z17 : [AV.int .i64 0, AV.int .i64 0, AV.int .i64 0, AV.int .i64 0, AV.int .i64 0, AV.int .i64 0, AV.int .i64 0, AV.int .i64 0, AV.int .i64 0, AV.int .i64 0, AV.int .i64 0, AV.int .i64 0, AV.int .i64 0, AV.int .i64 0, AV.int .i64 0, AV.int .i64 0, AV.int .i64 0] = arr .i64 17 fun _ => 0 := by kernel_rfl
theorem z34 : AV.int .i64 0 :: AV.int .i64 0 :: AV.int .i64 0 :: AV.int .i64 0 :: AV.int .i64 0 :: AV.int .i64 0 :: AV.int .i64 0 :: AV.int .i64 0 :: AV.int .i64 0 :: AV.int .i64 0 :: AV.int .i64 0 :: AV.int .i64 0 :: AV.int .i64 0 :: AV.int .i64 0 :: AV.int .i64 0 :: AV.int .i64 0 :: AV.int .i64 0 :: arr .i64 17 (fun _ => 0) = arr .i64 34 fun _ => 0 := by kernel_rfl
theorem q17_zero : q17 0 = arr .i64 17 fun _ => 0 := arr_ext fun k _ => by simp [dig]
theorem mod19 (a c : Nat) : (a + 2 ^ 255 * c) % p25 = (a + 19 * c) % p25 := by
  rw [show (2 : Nat) ^ 255 = 19 + p25 from rfl, Nat.add_mul, ← Nat.add_assoc, Nat.add_mul_mod_self_left]
end Go.Fw
namespace Go.Fw
namespace Cv
section
variable {K : Type} [Lean.Grind.CommRing K]
def E (d x y : K) : K := y*y - x*x - 1 - d*x*x*y*y
theorem clN (d x1 y1 x2 y2 : K) : (y1*y2+x1*x2)*(y1*y2+x1*x2)*((1+d*x1*x2*y1*y2)*(1+d*x1*x2*y1*y2)) - (x1*y2+y1*x2)*(x1*y2+y1*x2)*((1-d*x1*x2*y1*y2)*(1-d*x1*x2*y1*y2)) - (1-d*x1*x2*y1*y2)*(1-d*x1*x2*y1*y2)*((1+d*x1*x2*y1*y2)*(1+d*x1*x2*y1*y2)) - d*((x1*y2+y1*x2)*(x1*y2+y1*x2))*((y1*y2+x1*x2)*(y1*y2+x1*x2)) = (d*d*d*x1*x1*y1*y1*x2*x2*x2*x2*y2*y2*y2*y2 - d*d*x1*x1*x2*x2*x2*x2*y2*y2*y2*y2 + d*d*y1*y1*x2*x2*x2*x2*y2*y2*y2*y2 - d*d*x2*x2*x2*x2*y2*y2*y2*y2 - d*x1*x1*x2*x2*x2*x2*y2*y2 + d*x1*x1*x2*x2*y2*y2*y2*y2 + d*y1*y1*x2*x2*x2*x2*y2*y2 - d*y1*y1*x2*x2*y2*y2*y2*y2 - 2*d*x2*x2*x2*x2*y2*y2*y2*y2 - 2*d*x2*x2*y2*y2 - 2*x2*x2*x2*x2*y2*y2 + x2*x2*x2*x2 + 2*x2*x2*y2*y2*y2*y2 - 4*x2*x2*y2*y2 + y2*y2*y2*y2) * E d x1 y1 + (d*x1*x1*x1*x1*x2*x2*y2*y2 + 2*d*x1*x1*x2*x2*y2*y2 + d*y1*y1*y1*y1*x2*x2*y2*y2 - 2*d*y1*y1*x2*x2*y2*y2 + d*x2*x2*y2*y2 + 2*x1*x1*x2*x2*y2*y2 - x1*x1*x2*x2 + x1*x1*y2*y2 - 2*y1*y1*x2*x2*y2*y2 + y1*y1*x2*x2 - y1*y1*y2*y2 + 2*x2*x2*y2*y2 - x2*x2 + y2*y2 + 1) * E d x2 y2 := by
  unfold E; grind
theorem asX (d x1 y1 x2 y2 x3 y3 : K) : ((x1*y2+y1*x2)*(1-d*x1*x2*y1*y2)*y3+(y1*y2+x1*x2)*(1+d*x1*x2*y1*y2)*x3)*((1+d*x2*x3*y2*y3)*(1-d*x2*x3*y2*y3)+d*x1*y1*(x2*y3+y2*x3)*(y2*y3+x2*x3)) - (x1*(y2*y3+x2*x3)*(1+d*x2*x3*y2*y3)+y1*(x2*y3+y2*x3)*(1-d*x2*x3*y2*y3))*((1+d*x1*x2*y1*y2)*(1-d*x1*x2*y1*y2)+d*(x1*y2+y1*x2)*(y1*y2+x1*x2)*x3*y3) = (0 - d*d*x1*x2*x2*x2*x2*y2*y2*y2*x3*x3*y3 - d*d*x1*x2*x2*x2*y2*y2*y2*y2*x3*y3*y3 + d*d*y1*x2*x2*x2*x2*y2*y2*y2*x3*y3*y3 + d*d*y1*x2*x2*x2*y2*y2*y2*y2*x3*x3*y3 - d*x1*x2*x2*x2*x2*y2*x3*x3*y3 - d*x1*x2*x2*x2*y2*y2*x3*x3*x3 - d*x1*x2*x2*x2*y2*y2*x3 + d*x1*x2*x2*y2*y2*y2*y3*y3*y3 - d*x1*x2*x2*y2*y2*y2*y3 + d*x1*x2*y2*y2*y2*y2*x3*y3*y3 + d*y1*x2*x2*x2*x2*y2*x3*y3*y3 + d*y1*x2*x2*x2*y2*y2*y3*y3*y3 - d*y1*x2*x2*x2*y2*y2*y3 - d*y1*x2*x2*y2*y2*y2*x3*x3*x3 - d*y1*x2*x2*y2*y2*y2*x3 - d*y1*x2*y2*y2*y2*y2*x3*x3*y3) * E d x1 y1 + (d*d*x1*x1*y1*x2*x2*y2*x3*x3*x3*y3*y3 - d*d*x1*x1*y1*x2*y2*y2*x3*x3*y3*y3*y3 - d*d*x1*y1*y1*x2*x2*y2*x3*x3*y3*y3*y3 + d*d*x1*y1*y1*x2*y2*y2*x3*x3*x3*y3*y3 + d*x1*x1*x1*x2*x2*y2*x3*x3*y3 + d*x1*x1*x1*x2*y2*y2*x3*y3*y3 + d*x1*x1*x1*x2*x3*x3*x3*y3*y3 + d*x1*x1*x1*y2*x3*x3*y3*y3*y3 - d*x1*x1*y1*x2*x2*y2*x3*y3*y3 - d*x1*x1*y1*x2*y2*y2*x3*x3*y3 + d*x1*x1*y1*x2*x3*x3*y3*y3*y3 + d*x1*x1*y1*y2*x3*x3*x3*y3*y3 - d*x1*y1*y1*x2*x2*y2*x3*x3*y3 - d*x1*y1*y1*x2*y2*y2*x3*y3*y3 - d*x1*y1*y1*x2*x3*x3*x3*y3*y3 - d*x1*y1*y1*y2*x3*x3*y3*y3*y3 + d*x1*x2*x2*y2*x3*x3*y3 + d*x1*x2*y2*y2*x3*y3*y3 + d*x1*x2*x3*x3*x3*y3*y3 + d*x1*y2*x3*x3*y3*y3*y3 + d*y1*y1*y1*x2*x2*y2*x3*y3*y3 + d*y1*y1*y1*x2*y2*y2*x3*x3*y3 - d*y1*y1*y1*x2*x3*x3*y3*y3*y3 - d*y1*y1*y1*y2*x3*x3*x3*y3*y3 - d*y1*x2*x2*y2*x3*y3*y3 - d*y1*x2*y2*y2*x3*x3*y3 + d*y1*x2*x3*x3*y3*y3*y3 + d*y1*y2*x3*x3*x3*y3*y3 + x1*x1*x1*x2*x3*x3*x3 - x1*x1*x1*x2*x3*y3*y3 + x1*x1*x1*x2*x3 + x1*x1*x1*y2*x3*x3*y3 - x1*x1*x1*y2*y3*y3*y3 + x1*x1*x1*y2*y3 + x1*x1*y1*x2*x3*x3*y3 - x1*x1*y1*x2*y3*y3*y3 + x1*x1*y1*x2*y3 + x1*x1*y1*y2*x3*x3*x3 - x1*x1*y1*y2*x3*y3*y3 + x1*x1*y1*y2*x3 - x1*y1*y1*x2*x3*x3*x3 + x1*y1*y1*x2*x3*y3*y3 - x1*y1*y1*x2*x3 - x1*y1*y1*y2*x3*x3*y3 + x1*y1*y1*y2*y3*y3*y3 - x1*y1*y1*y2*y3 + x1*x2*x3*x3*x3 - x1*x2*x3*y3*y3 + x1*x2*x3 + x1*y2*x3*x3*y3 - x1*y2*y3*y3*y3 + x1*y2*y3 - y1*y1*y1*x2*x3*x3*y3 + y1*y1*y1*x2*y3*y3*y3 - y1*y1*y1*x2*y3 - y1*y1*y1*y2*x3*x3*x3 + y1*y1*y1*y2*x3*y3*y3 - y1*y1*y1*y2*x3 + y1*x2*x3*x3*y3 - y1*x2*y3*y3*y3 + y1*x2*y3 + y1*y2*x3*x3*x3 - y1*y2*x3*y3*y3 + y1*y2*x3) * E d x2 y2 + (0 - d*x1*x1*y1*x2*x2*y2*x3 + d*x1*x1*y1*x2*y2*y2*y3 + d*x1*y1*y1*x2*x2*y2*y3 - d*x1*y1*y1*x2*y2*y2*x3 - x1*x1*x1*x2*x2*x2*x3 - x1*x1*x1*x2*x2*y2*y3 + x1*x1*x1*x2*y2*y2*x3 - x1*x1*x1*x2*x3 + x1*x1*x1*y2*y2*y2*y3 - x1*x1*x1*y2*y3 - x1*x1*y1*x2*x2*x2*y3 - x1*x1*y1*x2*x2*y2*x3 + x1*x1*y1*x2*y2*y2*y3 - x1*x1*y1*x2*y3 + x1*x1*y1*y2*y2*y2*x3 - x1*x1*y1*y2*x3 + x1*y1*y1*x2*x2*x2*x3 + x1*y1*y1*x2*x2*y2*y3 - x1*y1*y1*x2*y2*y2*x3 + x1*y1*y1*x2*x3 - x1*y1*y1*y2*y2*y2*y3 + x1*y1*y1*y2*y3 - x1*x2*x2*x2*x3 - x1*x2*x2*y2*y3 + x1*x2*y2*y2*x3 - x1*x2*x3 + x1*y2*y2*y2*y3 - x1*y2*y3 + y1*y1*y1*x2*x2*x2*y3 + y1*y1*y1*x2*x2*y2*x3 - y1*y1*y1*x2*y2*y2*y3 + y1*y1*y1*x2*y3 - y1*y1*y1*y2*y2*y2*x3 + y1*y1*y1*y2*x3 - y1*x2*x2*x2*y3 - y1*x2*x2*y2*x3 + y1*x2*y2*y2*y3 - y1*x2*y3 + y1*y2*y2*y2*x3 - y1*y2*x3) * E d x3 y3 := by
  unfold E; grind
theorem asY (d x1 y1 x2 y2 x3 y3 : K) : ((y1*y2+x1*x2)*(1+d*x1*x2*y1*y2)*y3+(x1*y2+y1*x2)*(1-d*x1*x2*y1*y2)*x3)*((1+d*x2*x3*y2*y3)*(1-d*x2*x3*y2*y3)-d*x1*y1*(x2*y3+y2*x3)*(y2*y3+x2*x3)) - (y1*(y2*y3+x2*x3)*(1+d*x2*x3*y2*y3)+x1*(x2*y3+y2*x3)*(1-d*x2*x3*y2*y3))*((1+d*x1*x2*y1*y2)*(1-d*x1*x2*y1*y2)-d*(x1*y2+y1*x2)*(y1*y2+x1*x2)*x3*y3) = (d*d*x1*x2*x2*x2*x2*y2*y2*y2*x3*y3*y3 + d*d*x1*x2*x2*x2*y2*y2*y2*y2*x3*x3*y3 - d*d*y1*x2*x2*x2*x2*y2*y2*y2*x3*x3*y3 - d*d*y1*x2*x2*x2*y2*y2*y2*y2*x3*y3*y3 + d*x1*x2*x2*x2*x2*y2*x3*y3*y3 + d*x1*x2*x2*x2*y2*y2*y3*y3*y3 - d*x1*x2*x2*x2*y2*y2*y3 - d*x1*x2*x2*y2*y2*y2*x3*x3*x3 - d*x1*x2*x2*y2*y2*y2*x3 - d*x1*x2*y2*y2*y2*y2*x3*x3*y3 - d*y1*x2*x2*x2*x2*y2*x3*x3*y3 - d*y1*x2*x2*x2*y2*y2*x3*x3*x3 - d*y1*x2*x2*x2*y2*y2*x3 + d*y1*x2*x2*y2*y2*y2*y3*y3*y3 - d*y1*x2*x2*y2*y2*y2*y3 + d*y1*x2*y2*y2*y2*y2*x3*y3*y3) * E d x1 y1 + (d*d*x1*x1*y1*x2*x2*y2*x3*x3*y3*y3*y3 - d*d*x1*x1*y1*x2*y2*y2*x3*x3*x3*y3*y3 - d*d*x1*y1*y1*x2*x2*y2*x3*x3*x3*y3*y3 + d*d*x1*y1*y1*x2*y2*y2*x3*x3*y3*y3*y3 - d*x1*x1*x1*x2*x2*y2*x3*y3*y3 - d*x1*x1*x1*x2*y2*y2*x3*x3*y3 + d*x1*x1*x1*x2*x3*x3*y3*y3*y3 + d*x1*x1*x1*y2*x3*x3*x3*y3*y3 + d*x1*x1*y1*x2*x2*y2*x3*x3*y3 + d*x1*x1*y1*x2*y2*y2*x3*y3*y3 + d*x1*x1*y1*x2*x3*x3*x3*y3*y3 + d*x1*x1*y1*y2*x3*x3*y3*y3*y3 + d*x1*y1*y1*x2*x2*y2*x3*y3*y3 + d*x1*y1*y1*x2*y2*y2*x3*x3*y3 - d*x1*y1*y1*x2*x3*x3*y3*y3*y3 - d*x1*y1*y1*y2*x3*x3*x3*y3*y3 - d*x1*x2*x2*y2*x3*y3*y3 - d*x1*x2*y2*y2*x3*x3*y3 + d*x1*x2*x3*x3*y3*y3*y3 + d*x1*y2*x3*x3*x3*y3*y3 - d*y1*y1*y1*x2*x2*y2*x3*x3*y3 - d*y1*y1*y1*x2*y2*y2*x3*y3*y3 - d*y1*y1*y1*x2*x3*x3*x3*y3*y3 - d*y1*y1*y1*y2*x3*x3*y3*y3*y3 + d*y1*x2*x2*y2*x3*x3*y3 + d*y1*x2*y2*y2*x3*y3*y3 + d*y1*x2*x3*x3*x3*y3*y3 + d*y1*y2*x3*x3*y3*y3*y3 + x1*x1*x1*x2*x3*x3*y3 - x1*x1*x1*x2*y3*y3*y3 + x1*x1*x1*x2*y3 + x1*x1*x1*y2*x3*x3*x3 - x1*x1*x1*y2*x3*y3*y3 + x1*x1*x1*y2*x3 + x1*x1*y1*x2*x3*x3*x3 - x1*x1*y1*x2*x3*y3*y3 + x1*x1*y1*x2*x3 + x1*x1*y1*y2*x3*x3*y3 - x1*x1*y1*y2*y3*y3*y3 + x1*x1*y1*y2*y3 - x1*y1*y1*x2*x3*x3*y3 + x1*y1*y1*x2*y3*y3*y3 - x1*y1*y1*x2*y3 - x1*y1*y1*y2*x3*x3*x3 + x1*y1*y1*y2*x3*y3*y3 - x1*y1*y1*y2*x3 + x1*x2*x3*x3*y3 - x1*x2*y3*y3*y3 + x1*x2*y3 + x1*y2*x3*x3*x3 - x1*y2*x3*y3*y3 + x1*y2*x3 - y1*y1*y1*x2*x3*x3*x3 + y1*y1*y1*x2*x3*y3*y3 - y1*y1*y1*x2*x3 - y1*y1*y1*y2*x3*x3*y3 + y1*y1*y1*y2*y3*y3*y3 - y1*y1*y1*y2*y3 + y1*x2*x3*x3*x3 - y1*x2*x3*y3*y3 + y1*x2*x3 + y1*y2*x3*x3*y3 - y1*y2*y3*y3*y3 + y1*y2*y3) * E d x2 y2 + (0 - d*x1*x1*y1*x2*x2*y2*y3 + d*x1*x1*y1*x2*y2*y2*x3 + d*x1*y1*y1*x2*x2*y2*x3 - d*x1*y1*y1*x2*y2*y2*y3 - x1*x1*x1*x2*x2*x2*y3 - x1*x1*x1*x2*x2*y2*x3 + x1*x1*x1*x2*y2*y2*y3 - x1*x1*x1*x2*y3 + x1*x1*x1*y2*y2*y2*x3 - x1*x1*x1*y2*x3 - x1*x1*y1*x2*x2*x2*x3 - x1*x1*y1*x2*x2*y2*y3 + x1*x1*y1*x2*y2*y2*x3 - x1*x1*y1*x2*x3 + x1*x1*y1*y2*y2*y2*y3 - x1*x1*y1*y2*y3 + x1*y1*y1*x2*x2*x2*y3 + x1*y1*y1*x2*x2*y2*x3 - x1*y1*y1*x2*y2*y2*y3 + x1*y1*y1*x2*y3 - x1*y1*y1*y2*y2*y2*x3 + x1*y1*y1*y2*x3 - x1*x2*x2*x2*y3 - x1*x2*x2*y2*x3 + x1*x2*y2*y2*y3 - x1*x2*y3 + x1*y2*y2*y2*x3 - x1*y2*x3 + y1*y1*y1*x2*x2*x2*x3 + y1*y1*y1*x2*x2*y2*y3 - y1*y1*y1*x2*y2*y2*x3 + y1*y1*y1*x2*x3 - y1*y1*y1*y2*y2*y2*y3 + y1*y1*y1*y2*y3 - y1*x2*x2*x2*x3 - y1*x2*x2*y2*y3 + y1*x2*y2*y2*x3 - y1*x2*x3 + y1*y2*y2*y2*y3 - y1*y2*y3) * E d x3 y3 := by
  unfold E; grind
end
end Cv
end Go.Fw
namespace Go.Fw
namespace Cv
section
variable {K : Type} [Lean.Grind.CommRing K]
structure Fld (K : Type) [Lean.Grind.CommRing K] where
  inv : K → K
  nz : ∀ a b : K, a * b = 0 → a = 0 ∨ b = 0
  hinv : ∀ a : K, a ≠ 0 → a * inv a = 1
  one : (1 : K) ≠ 0
  two : (2 : K) ≠ 0
  d : K
  s : K
  hs : s * s = -1
  hd : ∀ u v : K, d * u * u = v * v → u = 0
theorem Fld.compl (F : Fld K) {x1 y1 x2 y2 e : K} (h1 : E F.d x1 y1 = 0) (h2 : E F.d x2 y2 = 0) (he : e * e = 1) : F.d * x1 * x2 * y1 * y2 ≠ e := by
  intro h
  have e0 : e ≠ 0 := fun z => F.one (by grind)
  unfold E at h1 h2
  have hs := F.hs
  have k1 : F.d * (x1 * y1 * (F.s * x2 + y2)) * (x1 * y1 * (F.s * x2 + y2)) = (F.s * x1 + e * y1) * (F.s * x1 + e * y1) := by grind
  have k2 : F.d * (x1 * y1 * (F.s * x2 - y2)) * (x1 * y1 * (F.s * x2 - y2)) = (F.s * x1 - e * y1) * (F.s * x1 - e * y1) := by grind
  have q1 := F.hd _ _ k1
  have q2 := F.hd _ _ k2
  have hxy : x1 * y1 ≠ 0 := fun z => e0 (by rw [← h]; grind)
  have r1 := (F.nz _ _ q1).resolve_left hxy
  have r2 := (F.nz _ _ q2).resolve_left hxy
  have r3 : 2 * x2 = 0 := by grind
  have r4 := (F.nz _ _ r3).resolve_left F.two
  exact e0 (by rw [← h, r4]; grind)
theorem Fld.cp (F : Fld K) {x1 y1 x2 y2 : K} (h1 : E F.d x1 y1 = 0) (h2 : E F.d x2 y2 = 0) : 1 + F.d * x1 * x2 * y1 * y2 ≠ 0 ∧ 1 - F.d * x1 * x2 * y1 * y2 ≠ 0 := by
  constructor
  · intro z
    exact F.compl h1 h2 (e := -1) (by grind) (by grind)
  · intro z
    exact F.compl h1 h2 (e := 1) (by grind) (by grind)
structure Pt (F : Fld K) where
  x : K
  y : K
  on : E F.d x y = 0
theorem Pt.eq {F : Fld K} {P Q : Pt F} (h1 : P.x = Q.x) (h2 : P.y = Q.y) : P = Q := by
  cases P; cases Q; simp only at h1 h2; subst h1 h2; rfl
theorem clU (d X Y a b u v : K) (hu : a * u = 1) (hv : b * v = 1) : E d (X * u) (Y * v) = (Y*Y*(a*a) - X*X*(b*b) - b*b*(a*a) - d*(X*X)*(Y*Y))*(u*u*v*v) := by
  unfold E; grind
def add {F : Fld K} (P Q : Pt F) : Pt F where
  x := (P.x*Q.y+P.y*Q.x) * F.inv (1 + F.d*P.x*Q.x*P.y*Q.y)
  y := (P.y*Q.y+P.x*Q.x) * F.inv (1 - F.d*P.x*Q.x*P.y*Q.y)
  on := by
    obtain ⟨h1, h2⟩ := F.cp P.on Q.on
    rw [clU F.d _ _ _ _ _ _ (F.hinv _ h1) (F.hinv _ h2), clN, P.on, Q.on]
    grind
def zero (F : Fld K) : Pt F := ⟨0, 1, by unfold E; grind⟩
def neg {F : Fld K} (P : Pt F) : Pt F := ⟨-P.x, P.y, by have := P.on; unfold E at *; grind⟩
theorem add_comm {F : Fld K} (P Q : Pt F) : add P Q = add Q P := by
  apply Pt.eq
  · show (P.x*Q.y+P.y*Q.x) * F.inv (1 + F.d*P.x*Q.x*P.y*Q.y) = (Q.x*P.y+Q.y*P.x) * F.inv (1 + F.d*Q.x*P.x*Q.y*P.y)
    rw [show P.x*Q.y+P.y*Q.x = Q.x*P.y+Q.y*P.x by grind, show 1 + F.d*P.x*Q.x*P.y*Q.y = 1 + F.d*Q.x*P.x*Q.y*P.y by grind]
  · show (P.y*Q.y+P.x*Q.x) * F.inv (1 - F.d*P.x*Q.x*P.y*Q.y) = (Q.y*P.y+Q.x*P.x) * F.inv (1 - F.d*Q.x*P.x*Q.y*P.y)
    rw [show P.y*Q.y+P.x*Q.x = Q.y*P.y+Q.x*P.x by grind, show 1 - F.d*P.x*Q.x*P.y*Q.y = 1 - F.d*Q.x*P.x*Q.y*P.y by grind]
theorem Fld.inv1 (F : Fld K) : F.inv 1 = 1 := by
  have := F.hinv 1 F.one
  grind
theorem add_zero {F : Fld K} (P : Pt F) : add P (zero F) = P := by
  apply Pt.eq
  · show (P.x*1+P.y*0) * F.inv (1 + F.d*P.x*0*P.y*1) = P.x
    rw [show 1 + F.d*P.x*0*P.y*1 = 1 by grind, F.inv1]; grind
  · show (P.y*1+P.x*0) * F.inv (1 - F.d*P.x*0*P.y*1) = P.y
    rw [show 1 - F.d*P.x*0*P.y*1 = 1 by grind, F.inv1]; grind
theorem zero_add {F : Fld K} (P : Pt F) : add (zero F) P = P := by rw [add_comm, add_zero]
theorem Fld.div_eq (F : Fld K) {a b c e : K} (hc : c ≠ 0) (he : e ≠ 0) (h : a * e = b * c) : a * F.inv c = b * F.inv e := by
  have h1 := F.hinv c hc
  have h2 := F.hinv e he
  grind
theorem asU (d X12 Y12 X23 Y23 a b a' b' u v u' v' x1 y1 x3 y3 : K) (hu : a * u = 1) (hv : b * v = 1) (hu' : a' * u' = 1) (hv' : b' * v' = 1) (h : (X12*b*y3+Y12*a*x3)*(a'*b'+d*x1*y1*X23*Y23) - (x1*Y23*a'+y1*X23*b')*(a*b+d*X12*Y12*x3*y3) = 0) :
    (X12*u*y3+Y12*v*x3) * (1 + d*x1*(X23*u')*y1*(Y23*v')) = (x1*(Y23*v')+y1*(X23*u')) * (1 + d*(X12*u)*x3*(Y12*v)*y3) := by
  have e1 : X12*u*y3+Y12*v*x3 = (X12*b*y3+Y12*a*x3)*(u*v) := by grind
  have e2 : 1 + d*x1*(X23*u')*y1*(Y23*v') = (a'*b'+d*x1*y1*X23*Y23)*(u'*v') := by grind
  have e3 : x1*(Y23*v')+y1*(X23*u') = (x1*Y23*a'+y1*X23*b')*(u'*v') := by grind
  have e4 : 1 + d*(X12*u)*x3*(Y12*v)*y3 = (a*b+d*X12*Y12*x3*y3)*(u*v) := by grind
  rw [e1, e2, e3, e4]
  grind
theorem asV (d X12 Y12 X23 Y23 a b a' b' u v u' v' x1 y1 x3 y3 : K) (hu : a * u = 1) (hv : b * v = 1) (hu' : a' * u' = 1) (hv' : b' * v' = 1) (h : (Y12*a*y3+X12*b*x3)*(a'*b'-d*x1*y1*X23*Y23) - (y1*Y23*a'+x1*X23*b')*(a*b-d*X12*Y12*x3*y3) = 0) :
    (Y12*v*y3+X12*u*x3) * (1 - d*x1*(X23*u')*y1*(Y23*v')) = (y1*(Y23*v')+x1*(X23*u')) * (1 - d*(X12*u)*x3*(Y12*v)*y3) := by
  have e1 : Y12*v*y3+X12*u*x3 = (Y12*a*y3+X12*b*x3)*(u*v) := by grind
  have e2 : 1 - d*x1*(X23*u')*y1*(Y23*v') = (a'*b'-d*x1*y1*X23*Y23)*(u'*v') := by grind
  have e3 : y1*(Y23*v')+x1*(X23*u') = (y1*Y23*a'+x1*X23*b')*(u'*v') := by grind
  have e4 : 1 - d*(X12*u)*x3*(Y12*v)*y3 = (a*b-d*X12*Y12*x3*y3)*(u*v) := by grind
  rw [e1, e2, e3, e4]
  grind
theorem add_assoc {F : Fld K} (P Q R : Pt F) : add (add P Q) R = add P (add Q R) := by
  obtain ⟨h1, h2⟩ := F.cp P.on Q.on
  obtain ⟨h3, h4⟩ := F.cp Q.on R.on
  obtain ⟨h5, h6⟩ := F.cp (add P Q).on R.on
  obtain ⟨h7, h8⟩ := F.cp P.on (add Q R).on
  apply Pt.eq
  · refine F.div_eq h5 h7 ?_
    refine asU F.d _ _ _ _ _ _ _ _ _ _ _ _ _ _ _ _ (F.hinv _ h1) (F.hinv _ h2) (F.hinv _ h3) (F.hinv _ h4) ?_
    rw [asX, P.on, Q.on, R.on]; grind
  · refine F.div_eq h6 h8 ?_
    refine asV F.d _ _ _ _ _ _ _ _ _ _ _ _ _ _ _ _ (F.hinv _ h1) (F.hinv _ h2) (F.hinv _ h3) (F.hinv _ h4) ?_
    rw [asY, P.on, Q.on, R.on]; grind
def smul {F : Fld K} : Nat → Pt F → Pt F
  | 0, _ => zero F
  | n + 1, P => add (smul n P) P
theorem smul_add {F : Fld K} (m n : Nat) (P : Pt F) : smul (m + n) P = add (smul m P) (smul n P) := by
  induction n with
  | zero => exact (add_zero _).symm
  | succ n ih => rw [Nat.add_succ, smul, ih, smul, add_assoc]
end
end Cv
end Go.Fw
namespace Go.Fw
instance instNZ25 : NeZero p25 := ⟨Nat.ne_of_gt p25_pos⟩
abbrev Fp := Fin p25
def fv (x : Fp) : Nat := x.val
theorem fv_lt (x : Fp) : fv x < p25 := x.isLt
theorem fv_inj {x y : Fp} : fv x = fv y ↔ x = y := Fin.val_inj
def toF (n : Nat) : Fp := Fin.ofNat p25 n
theorem fv_toF (n : Nat) : fv (toF n) = n % p25 := rfl
theorem toF_fv (x : Fp) : toF (fv x) = x := by apply fv_inj.1; rw [fv_toF, Nat.mod_eq_of_lt (fv_lt x)]
theorem toF_lt {n : Nat} (h : n < p25) : fv (toF n) = n := by rw [fv_toF, Nat.mod_eq_of_lt h]
theorem fv_mul (x y : Fp) : fv (x * y) = fv x * fv y % p25 := Fin.val_mul x y
theorem fv_add (x y : Fp) : fv (x + y) = (fv x + fv y) % p25 := Fin.val_add x y
theorem fv_zero : fv (0 : Fp) = 0 := rfl
theorem fv_one : fv (1 : Fp) = 1 := by
  show 1 % p25 = 1
  exact Nat.mod_eq_of_lt (by decide)
theorem fv_neg (x : Fp) : fv (-x) = negP (fv x) := by
  have h := fv_lt x
  have e : fv (-x) = (p25 - fv x) % p25 := by
    show (-x).val = _
    rw [Fin.neg_def]
    rfl
  rw [e]
  unfold negP
  split
  · rename_i q; rw [q, Nat.sub_zero, Nat.mod_self]
  · rw [Nat.mod_eq_of_lt (by omega)]
theorem fv_sub (x y : Fp) : fv (x - y) = (fv x + negP (fv y)) % p25 := by
  rw [← fv_neg, ← fv_add]
  congr 1
  exact Fin.sub_eq_add_neg x y
theorem inv_abs (p a : Nat) (hp : 2 ≤ p) (h : a ^ (p - 1) % p = 1) : a * (a ^ (p - 2) % p) % p = 1 := by
  rw [Nat.mul_mod, Nat.mod_mod, ← Nat.mul_mod, Nat.mul_comm, ← Nat.pow_succ, show (p - 2).succ = p - 1 by omega]
  exact h
theorem pow_lt (p a e : Nat) (h : 0 < p) : a ^ e % p < p := Nat.mod_lt _ h
theorem zero_pw (p e : Nat) (he : 0 < e) : 0 ^ e % p = 0 := by rw [Nat.zero_pow he, Nat.zero_mod]
theorem inv_ex (x : Fp) (h : x ≠ 0) : ∃ y : Fp, x * y = 1 ∧ fv y = fv x ^ (p25 - 2) % p25 := by
  have hd : ¬ p25 ∣ fv x := by
    intro z
    have := Nat.eq_zero_of_dvd_of_lt z (fv_lt x)
    exact h (fv_inj.1 (by rw [this, fv_zero]))
  have h1 := inv_abs p25 (fv x) (by decide) (prm_p25.fermat1 hd)
  obtain ⟨e, he⟩ : ∃ e, e = p25 - 2 := ⟨_, rfl⟩
  rw [← he] at h1 ⊢
  refine ⟨toF (fv x ^ e % p25), ?_, toF_lt (pow_lt _ _ _ p25_pos)⟩
  apply fv_inj.1
  rw [fv_mul, toF_lt (pow_lt _ _ _ p25_pos), fv_one]
  exact h1
open Classical in
noncomputable def invF (x : Fp) : Fp := if h : x ≠ 0 then Classical.choose (inv_ex x h) else 0
theorem invF_mul (x : Fp) (h : x ≠ 0) : x * invF x = 1 := by
  unfold invF
  rw [dif_pos h]
  exact (Classical.choose_spec (inv_ex x h)).1
theorem fv_invF (x : Fp) : fv (invF x) = fv x ^ (p25 - 2) % p25 := by
  unfold invF
  split
  · rename_i h
    exact (Classical.choose_spec (inv_ex x h)).2
  · rename_i h
    have h0 : x = 0 := Classical.not_not.1 h
    obtain ⟨e, he⟩ : ∃ e, e = p25 - 2 := ⟨_, rfl⟩
    have hpos : 0 < e := by rw [he]; decide
    rw [← he, h0, fv_zero, zero_pw _ _ hpos]
def dP : Nat := 37095705934669439343138083508754565189542113879843219016388785533085940283555
theorem dP_lt : dP < p25 := by decide +kernel
theorem dP_no : isSq dP = false := by decide +kernel
theorem rootI_lt : rootI < p25 := by decide +kernel
theorem m1_fv : fv (-1 : Fp) = p25 - 1 := by
  rw [fv_neg, fv_one]
  unfold negP
  rw [if_neg (by decide)]
noncomputable def FP : Cv.Fld Fp where
  inv := invF
  nz := fun a b h => by
    have : fv a * fv b % p25 = 0 := by rw [← fv_mul, h, fv_zero]
    rcases mulP_zero this with q | q
    · left; apply fv_inj.1; rw [fv_zero, ← q, Nat.mod_eq_of_lt (fv_lt a)]
    · right; apply fv_inj.1; rw [fv_zero, ← q, Nat.mod_eq_of_lt (fv_lt b)]
  hinv := invF_mul
  one := fun h => by
    have := congrArg fv h
    rw [fv_one, fv_zero] at this
    cases this
  two := fun h => by
    have := congrArg fv h
    rw [fv_zero] at this
    have e : fv (2 : Fp) = 2 := by
      show 2 % p25 = 2
      exact Nat.mod_eq_of_lt (by decide)
    rw [e] at this
    cases this
  d := toF dP
  s := toF rootI
  hs := by
    apply fv_inj.1
    rw [fv_mul, toF_lt rootI_lt, rootI_sq, m1_fv]
  hd := fun u v h => by
    refine Classical.byContradiction fun hu => ?_
    have hi := invF_mul u hu
    have hx : v * invF u * (v * invF u) = toF dP := by
      have e : v * invF u * (v * invF u) = v * v * (invF u * invF u) := by grind
      rw [e, ← h]
      have e2 : toF dP * u * u * (invF u * invF u) = toF dP * ((u * invF u) * (u * invF u)) := by grind
      rw [e2, hi]
      grind
    have hv := congrArg fv hx
    rw [fv_mul, toF_lt dP_lt] at hv
    have h1 := (rootF_sq (fv_lt (v * invF u))).1
    rw [hv, rootF_is dP dP_lt, dP_no] at h1
    cases h1
end Go.Fw
namespace Go.Fw
namespace Cv
section
variable {K : Type} [Lean.Grind.CommRing K]
structure EP (K : Type) where
  x : K
  y : K
  z : K
  t : K
structure RP (K : Type) where
  x : K
  y : K
  z : K
def sumE (d : K) (p q : EP K) : EP K :=
  let a := (p.y - p.x) * (q.y - q.x)
  let b := (p.y + p.x) * (q.y + q.x)
  let c := p.t * q.t * d * 2
  let z := p.z * q.z * 2
  ⟨(b - a) * (z - c), (z + c) * (b + a), (z - c) * (z + c), (b - a) * (b + a)⟩
def addR (d : K) (p q : RP K) : RP K :=
  let a := p.z * q.z
  let b := a * a
  let c := p.x * q.x
  let e := p.y * q.y
  let f := d * (c * e)
  let g := b - f
  let h := b + f
  let cross := (p.x + p.y) * (q.x + q.y) - c - e
  ⟨a * g * cross, a * h * (e + c), g * h⟩
structure Rep {F : Fld K} (p : EP K) (P : Pt F) : Prop where
  z : p.z ≠ 0
  x : p.x = P.x * p.z
  y : p.y = P.y * p.z
  t : p.t = P.x * P.y * p.z
structure RRep {F : Fld K} (p : RP K) (P : Pt F) : Prop where
  z : p.z ≠ 0
  x : p.x = P.x * p.z
  y : p.y = P.y * p.z
theorem Fld.mul_ne (F : Fld K) {a b : K} (ha : a ≠ 0) (hb : b ≠ 0) : a * b ≠ 0 := fun h => (F.nz _ _ h).elim ha hb
theorem tri (A B a b u v Z : K) : A * u * (B * v) * (Z * b * (Z * a)) = Z * A * (Z * B) * ((a * u) * (b * v)) := by grind
theorem tri1 (A : K) : A = A * (1 * 1) := by grind
theorem sum_rep {F : Fld K} {p q : EP K} {P Q : Pt F} (hp : Rep p P) (hq : Rep q Q) : Rep (sumE F.d p q) (add P Q) := by
  obtain ⟨c1, c2⟩ := F.cp P.on Q.on
  have i1 := F.hinv _ c1
  have i2 := F.hinv _ c2
  obtain ⟨x1, y1, z1, t1⟩ := p
  obtain ⟨x2, y2, z2, t2⟩ := q
  obtain ⟨hz1, hx1, hy1, ht1⟩ := hp
  obtain ⟨hz2, hx2, hy2, ht2⟩ := hq
  simp only at hz1 hx1 hy1 ht1 hz2 hx2 hy2 ht2
  have hzz := F.mul_ne (F.mul_ne hz1 hz2) F.two
  have eE : (y1 + x1) * (y2 + x2) - (y1 - x1) * (y2 - x2) = z1 * z2 * 2 * (P.x * Q.y + P.y * Q.x) := by grind
  have eH : (y1 + x1) * (y2 + x2) + (y1 - x1) * (y2 - x2) = z1 * z2 * 2 * (P.y * Q.y + P.x * Q.x) := by grind
  have eF : z1 * z2 * 2 - t1 * t2 * F.d * 2 = z1 * z2 * 2 * (1 - F.d * P.x * Q.x * P.y * Q.y) := by grind
  have eG : z1 * z2 * 2 + t1 * t2 * F.d * 2 = z1 * z2 * 2 * (1 + F.d * P.x * Q.x * P.y * Q.y) := by grind
  have hF := F.mul_ne hzz c2
  have hG := F.mul_ne hzz c1
  rw [← eF] at hF
  rw [← eG] at hG
  refine ⟨F.mul_ne hF hG, ?_, ?_, ?_⟩
  · show ((y1 + x1) * (y2 + x2) - (y1 - x1) * (y2 - x2)) * (z1 * z2 * 2 - t1 * t2 * F.d * 2) = (P.x*Q.y+P.y*Q.x) * F.inv (1 + F.d*P.x*Q.x*P.y*Q.y) * ((z1 * z2 * 2 - t1 * t2 * F.d * 2) * (z1 * z2 * 2 + t1 * t2 * F.d * 2))
    rw [eE, eF, eG]; grind
  · show (z1 * z2 * 2 + t1 * t2 * F.d * 2) * ((y1 + x1) * (y2 + x2) + (y1 - x1) * (y2 - x2)) = (P.y*Q.y+P.x*Q.x) * F.inv (1 - F.d*P.x*Q.x*P.y*Q.y) * ((z1 * z2 * 2 - t1 * t2 * F.d * 2) * (z1 * z2 * 2 + t1 * t2 * F.d * 2))
    rw [eH, eF, eG]; grind
  · show ((y1 + x1) * (y2 + x2) - (y1 - x1) * (y2 - x2)) * ((y1 + x1) * (y2 + x2) + (y1 - x1) * (y2 - x2)) = (P.x*Q.y+P.y*Q.x) * F.inv (1 + F.d*P.x*Q.x*P.y*Q.y) * ((P.y*Q.y+P.x*Q.x) * F.inv (1 - F.d*P.x*Q.x*P.y*Q.y)) * ((z1 * z2 * 2 - t1 * t2 * F.d * 2) * (z1 * z2 * 2 + t1 * t2 * F.d * 2))
    rw [eE, eH, eF, eG]
    generalize F.inv (1 + F.d*P.x*Q.x*P.y*Q.y) = u at *
    generalize F.inv (1 - F.d*P.x*Q.x*P.y*Q.y) = v at *
    generalize 1 + F.d*P.x*Q.x*P.y*Q.y = a at *
    generalize 1 - F.d*P.x*Q.x*P.y*Q.y = b at *
    generalize P.x*Q.y+P.y*Q.x = A at *
    generalize P.y*Q.y+P.x*Q.x = B at *
    generalize z1 * z2 * 2 = Z at *
    rw [tri, i1, i2]
    exact tri1 _
theorem addR_rep {F : Fld K} {p q : RP K} {P Q : Pt F} (hp : RRep p P) (hq : RRep q Q) : RRep (addR F.d p q) (add P Q) := by
  obtain ⟨c1, c2⟩ := F.cp P.on Q.on
  have i1 := F.hinv _ c1
  have i2 := F.hinv _ c2
  obtain ⟨x1, y1, z1⟩ := p
  obtain ⟨x2, y2, z2⟩ := q
  obtain ⟨hz1, hx1, hy1⟩ := hp
  obtain ⟨hz2, hx2, hy2⟩ := hq
  simp only at hz1 hx1 hy1 hz2 hx2 hy2
  have hzz := F.mul_ne (F.mul_ne hz1 hz2) (F.mul_ne hz1 hz2)
  have eG : z1 * z2 * (z1 * z2) - F.d * (x1 * x2 * (y1 * y2)) = z1 * z2 * (z1 * z2) * (1 - F.d * P.x * Q.x * P.y * Q.y) := by grind
  have eH : z1 * z2 * (z1 * z2) + F.d * (x1 * x2 * (y1 * y2)) = z1 * z2 * (z1 * z2) * (1 + F.d * P.x * Q.x * P.y * Q.y) := by grind
  have eX : (x1 + y1) * (x2 + y2) - x1 * x2 - y1 * y2 = z1 * z2 * (P.x * Q.y + P.y * Q.x) := by grind
  have eY : y1 * y2 + x1 * x2 = z1 * z2 * (P.y * Q.y + P.x * Q.x) := by grind
  have hG := F.mul_ne hzz c2
  have hH := F.mul_ne hzz c1
  rw [← eG] at hG
  rw [← eH] at hH
  refine ⟨F.mul_ne hG hH, ?_, ?_⟩
  · show z1 * z2 * (z1 * z2 * (z1 * z2) - F.d * (x1 * x2 * (y1 * y2))) * ((x1 + y1) * (x2 + y2) - x1 * x2 - y1 * y2) = (P.x*Q.y+P.y*Q.x) * F.inv (1 + F.d*P.x*Q.x*P.y*Q.y) * ((z1 * z2 * (z1 * z2) - F.d * (x1 * x2 * (y1 * y2))) * (z1 * z2 * (z1 * z2) + F.d * (x1 * x2 * (y1 * y2))))
    rw [eX, eG, eH]
    clear eX eG eH eY hx1 hx2 hy1 hy2 hG hH
    grind
  · show z1 * z2 * (z1 * z2 * (z1 * z2) + F.d * (x1 * x2 * (y1 * y2))) * (y1 * y2 + x1 * x2) = (P.y*Q.y+P.x*Q.x) * F.inv (1 - F.d*P.x*Q.x*P.y*Q.y) * ((z1 * z2 * (z1 * z2) - F.d * (x1 * x2 * (y1 * y2))) * (z1 * z2 * (z1 * z2) + F.d * (x1 * x2 * (y1 * y2))))
    rw [eY, eG, eH]
    clear eX eG eH eY hx1 hx2 hy1 hy2 hG hH
    grind
end
end Cv
end Go.Fw
namespace Go.Fw
def enc32 (x y : Fp) : List UInt8 := byL 32 (fv y + 2 ^ 255 * (fv x % 2))
theorem byL_add_top {n : Nat} (h : n < 2 ^ 255) : (byL 32 n).set 31 (UInt8.ofNat (n / 256 ^ 31 + 128)) = byL 32 (n + 2 ^ 255) := by
  have e1 : byL 31 (n + 2 ^ 255) = byL 31 n := by
    refine List.ext_getElem? fun i => ?_
    by_cases hi : i < 31
    · rw [byL_get hi, byL_get hi]
      congr 1
      have e : (2 : Nat) ^ 255 = 256 ^ i * (256 * (2 ^ 247 / 256 ^ i)) := by
        obtain ⟨k, hk⟩ : ∃ k, 30 = i + k := ⟨30 - i, by omega⟩
        have a1 : (2 : Nat) ^ 247 = 256 ^ i * (256 ^ k * 2 ^ 7) := by rw [← Nat.mul_assoc, ← Nat.pow_add, ← hk]
        rw [a1, Nat.mul_div_cancel_left _ (Nat.pow_pos (by decide))]
        rw [show (2 : Nat) ^ 255 = 256 * 2 ^ 247 from rfl, a1, Nat.mul_left_comm]
      rw [e, Nat.add_mul_div_left _ _ (Nat.pow_pos (by decide))]
      apply UInt8.toNat_inj.1
      rw [UInt8.toNat_ofNat', UInt8.toNat_ofNat']
      omega
    · rw [List.getElem?_eq_none (by rw [byL_len]; omega), List.getElem?_eq_none (by rw [byL_len]; omega)]
  rw [byL_succ 31 n, byL_succ 31 (n + 2 ^ 255), e1, List.set_append_right _ _ (by rw [byL_len]; exact Nat.le_refl _), byL_len]
  congr 1
  rw [show (n + 2 ^ 255) / 256 ^ 31 = n / 256 ^ 31 + 128 by rw [show (2 : Nat) ^ 255 = 256 ^ 31 * 128 by decide, Nat.add_mul_div_left _ _ (Nat.pow_pos (by decide))]]
  rfl
theorem byL_top (n : Nat) : (byL 32 n)[31]? = some (UInt8.ofNat (n / 256 ^ 31)) := byL_get (by decide)
theorem top_lt {n : Nat} (h : n < 2 ^ 255) : n / 256 ^ 31 < 128 := Nat.div_lt_of_lt_mul h
theorem byN_top {l : List UInt8} (hl : l.length = 32) : ∃ b, l[31]? = some b ∧ b.toNat / 128 = byN l / 2 ^ 255 ∧ byN (l.set 31 (UInt8.ofNat (b.toNat % 128))) = byN l % 2 ^ 255 := by
  have hb : l[31]? = some (l[31]'(by omega)) := List.getElem?_eq_getElem (by omega)
  obtain ⟨b, hbe⟩ : ∃ b, b = l[31]'(by omega) := ⟨_, rfl⟩
  rw [← hbe] at hb
  have h1 : l = l.take 31 ++ [b] := by
    have e1 : l.take 32 = l := List.take_of_length_le (by omega)
    rw [List.take_succ_eq_append_getElem (by omega : 31 < l.length)] at e1
    rw [hbe]; exact e1.symm
  have happ : ∀ (a : List UInt8) (c : UInt8), byN (a ++ [c]) = byN a + 256 ^ a.length * c.toNat := by
    intro a c
    induction a with
    | nil => simp [byN]
    | cons x a ih => simp only [List.cons_append, byN, ih, List.length_cons, Nat.pow_succ]; rw [Nat.mul_add, ← Nat.mul_assoc, Nat.mul_comm 256 (256 ^ a.length)]; omega
  have hlen : (l.take 31).length = 31 := by rw [List.length_take]; omega
  have hlt := byN_lt (l.take 31)
  rw [hlen] at hlt
  have hbl := b.toNat_lt
  have hN : byN l = byN (l.take 31) + 256 ^ 31 * b.toNat := by
    conv => lhs; rw [h1]
    rw [happ, hlen]
  have hset : l.set 31 (UInt8.ofNat (b.toNat % 128)) = l.take 31 ++ [UInt8.ofNat (b.toNat % 128)] := by
    conv => lhs; rw [h1]
    rw [List.set_append_right _ _ (by omega), hlen]
    rfl
  have hu : (UInt8.ofNat (b.toNat % 128)).toNat = b.toNat % 128 := by rw [UInt8.toNat_ofNat']; omega
  refine ⟨b, hb, ?_, ?_⟩
  · rw [hN]
    have e : (2 : Nat) ^ 255 = 256 ^ 31 * 128 := by decide
    rw [e, ← Nat.div_div_eq_div_mul, Nat.add_mul_div_left _ _ (Nat.pow_pos (by decide)), Nat.div_eq_of_lt hlt, Nat.zero_add]
  · rw [hset, happ, hlen, hu, hN]
    have e : (2 : Nat) ^ 255 = 256 ^ 31 * 128 := by decide
    generalize (256 : Nat) ^ 31 = T at *
    generalize byN (l.take 31) = B at *
    rw [e]
    obtain ⟨q, r, hq, hr⟩ : ∃ q r, b.toNat = 128 * q + r ∧ r < 128 := ⟨b.toNat / 128, b.toNat % 128, by omega, by omega⟩
    rw [hq, show (128 * q + r) % 128 = r by omega]
    have e3 : B + T * (128 * q + r) = B + T * r + T * 128 * q := by rw [Nat.mul_add, ← Nat.mul_assoc]; omega
    rw [e3, Nat.add_mul_mod_self_left, Nat.mod_eq_of_lt]
    have : T * r + T ≤ T * 128 := by rw [← Nat.mul_succ]; exact Nat.mul_le_mul_left _ hr
    omega
end Go.Fw
