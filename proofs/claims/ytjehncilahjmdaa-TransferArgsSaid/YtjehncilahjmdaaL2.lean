/-
  Words that are programmed one behind the other: whole, or torn.
-/
import Derived.Test.YtjehncilahjmdaaL1
set_option linter.unusedSimpArgs false
set_option linter.unnecessarySimpa false
set_option linter.unusedVariables false
set_option linter.unusedSectionVars false
namespace Go.Fw
theorem ovw_drop' {b l : List UInt8} {o : Nat} (h : o ≤ b.length) (j : Nat) : (ovw b o l).drop (o + l.length + j) = b.drop (o + l.length + j) := by
  have h1 : (b.take o ++ l).length = o + l.length := by simp; omega
  rw [ovw, ← h1, List.drop_length_add_append, h1, List.drop_drop]
theorem ovw_drop {b l : List UInt8} {o k : Nat} (h : o + l.length ≤ k) (hb : o ≤ b.length) : (ovw b o l).drop k = b.drop k := by
  obtain ⟨j, rfl⟩ : ∃ j, k = (o + l.length) + j := ⟨k - (o + l.length), by omega⟩
  exact ovw_drop' hb j
theorem ovw_ovw {b l m : List UInt8} {o : Nat} (h : o + l.length + m.length ≤ b.length) : ovw (ovw b o l) (o + l.length) m = ovw b o (l ++ m) := by
  have h1 : (b.take o ++ l).length = o + l.length := by simp; omega
  have e1 : (ovw b o l).take (o + l.length) = b.take o ++ l := by
    rw [ovw, ← h1, List.take_left]
  have e2 : (ovw b o l).drop (o + l.length + m.length) = b.drop (o + (l ++ m).length) := by
    rw [ovw_drop' (by omega), List.length_append, Nat.add_assoc]
  rw [ovw, e1, e2, ovw]
  simp only [List.append_assoc]
theorem ovw_take {b l : List UInt8} {o k : Nat} (h : k ≤ o) (hb : o ≤ b.length) : (ovw b o l).take k = b.take k := by
  rw [ovw, List.append_assoc, List.take_append_of_le_length (by simp; omega), List.take_take, Nat.min_eq_left h]
theorem andB_take (a b : List UInt8) (n : Nat) : (andB a b).take n = andB (a.take n) (b.take n) := List.take_zipWith
theorem andB_drop (a b : List UInt8) (n : Nat) : (andB a b).drop n = andB (a.drop n) (b.drop n) := List.drop_zipWith
/-- All words are programmed. -/
theorem wordsF_run : ∀ (n : Nat) (f : Fl) (o : Nat) (d : List UInt8), d.length = 4 * n → o + 4 * n ≤ f.b.length → andB ((f.b.drop o).take (4 * n)) d = d → (f.armed = true → (n : Int) ≤ f.left) →
    ∃ ops, wordsF n f o d = (0, { f with left := if f.armed = true then f.left - n else f.left, ops := ops, b := ovw f.b o d })
  | 0, f, o, d, hd, _, _, _ => by
    have : d = [] := List.eq_nil_of_length_eq_zero (by omega)
    subst this
    refine ⟨f.ops, ?_⟩
    rw [wordsF, ovw_nil]
    cases f; simp
  | n + 1, f, o, d, hd, ho, hb, ha => by
    have hw : andB ((f.b.drop o).take 4) (d.take 4) = d.take 4 := by
      have := congrArg (List.take 4) hb
      rwa [andB_take, List.take_take, Nat.min_eq_left (by omega)] at this
    have hs : stepF f = (true, { f with left := if f.armed = true then f.left - 1 else f.left, ops := IntKind.i64.wrap (f.ops + 1) }) := by
      unfold stepF; rw [if_neg]; rintro ⟨q, w⟩; have := ha q; omega
    have h1 : wordF f o (d.take 4) = (0, { f with left := if f.armed = true then f.left - 1 else f.left, ops := IntKind.i64.wrap (f.ops + 1), b := ovw f.b o (d.take 4) }) := by
      unfold wordF; rw [hs]; simp [hw]
    have h4 : (d.take 4).length = 4 := by simp; omega
    obtain ⟨ops, h2⟩ := wordsF_run n (wordF f o (d.take 4)).2 (o + 4) (d.drop 4) (by simp; omega) (by rw [h1]; simp only; rw [ovw_len (by omega)]; omega) (by
      rw [h1]; simp only
      rw [ovw_drop (by omega) (by omega)]
      have := congrArg (List.drop 4) hb
      rwa [andB_drop, List.drop_take, List.drop_drop, show 4 * (n + 1) - 4 = 4 * n by omega] at this) (by
      rw [h1]; simp only; intro q; rw [if_pos q]; have := ha q; omega)
    refine ⟨ops, ?_⟩
    rw [wordsF, if_pos (by rw [h1]), h2, h1]
    simp only
    have hov : ovw (ovw f.b o (d.take 4)) (o + 4) (d.drop 4) = ovw f.b o d := by
      have := ovw_ovw (b := f.b) (l := d.take 4) (m := d.drop 4) (o := o) (by rw [h4]; simp; omega)
      rwa [h4, List.take_append_drop] at this
    rw [hov]
    congr 2
    split <;> omega
/-- The power goes in a word. -/
theorem wordsF_tear : ∀ (k n : Nat) (f : Fl) (o : Nat) (d : List UInt8), k < n → d.length = 4 * n → o + 4 * n ≤ f.b.length → andB ((f.b.drop o).take (4 * n)) d = d → f.armed = true → f.left = k →
    ∃ ops, wordsF n f o d = (5, { f with left := 0, armed := false, off := true, ops := ops, b := ovw f.b o (d.take (4 * k) ++ tornB ((f.b.drop (o + 4 * k)).take 4) ((d.drop (4 * k)).take 4) (byL 4 f.tear)) })
  | 0, n, f, o, d, hk, hd, ho, hb, ha, hl => by
    obtain ⟨n, rfl⟩ : ∃ m, n = m + 1 := ⟨n - 1, by omega⟩
    have hs : stepF f = (false, { f with off := true, armed := false }) := by
      unfold stepF; rw [if_pos ⟨ha, by simpa using hl⟩]
    have h1 : wordF f o (d.take 4) = (5, { f with off := true, armed := false, b := ovw f.b o (tornB ((f.b.drop o).take 4) (d.take 4) (byL 4 f.tear)) }) := by
      unfold wordF; rw [hs]; simp
    refine ⟨f.ops, ?_⟩
    rw [wordsF, if_neg (by rw [h1]; simp), h1]
    simp [show f.left = 0 by simpa using hl]
  | k + 1, n, f, o, d, hk, hd, ho, hb, ha, hl => by
    obtain ⟨n, rfl⟩ : ∃ m, n = m + 1 := ⟨n - 1, by omega⟩
    have hw : andB ((f.b.drop o).take 4) (d.take 4) = d.take 4 := by
      have := congrArg (List.take 4) hb
      rwa [andB_take, List.take_take, Nat.min_eq_left (by omega)] at this
    have hs : stepF f = (true, { f with left := (k : Int), ops := IntKind.i64.wrap (f.ops + 1) }) := by
      unfold stepF; rw [if_neg (by rintro ⟨q, w⟩; omega), if_pos ha, hl]
      simp
    have h1 : wordF f o (d.take 4) = (0, { f with left := (k : Int), ops := IntKind.i64.wrap (f.ops + 1), b := ovw f.b o (d.take 4) }) := by
      unfold wordF; rw [hs]; simp [hw]
    have h4 : (d.take 4).length = 4 := by simp; omega
    obtain ⟨ops, h2⟩ := wordsF_tear k n (wordF f o (d.take 4)).2 (o + 4) (d.drop 4) (by omega) (by simp; omega) (by rw [h1]; simp only; rw [ovw_len (by omega)]; omega) (by
      rw [h1]; simp only
      rw [ovw_drop (by omega) (by omega)]
      have := congrArg (List.drop 4) hb
      rwa [andB_drop, List.drop_take, List.drop_drop, show 4 * (n + 1) - 4 = 4 * n by omega] at this) (by rw [h1]; exact ha) (by rw [h1])
    refine ⟨ops, ?_⟩
    rw [wordsF, if_pos (by rw [h1]), h2, h1]
    simp only
    rw [ovw_drop (by omega) (by omega), show o + 4 + 4 * k = o + 4 * (k + 1) by omega, List.drop_drop, show 4 + 4 * k = 4 * (k + 1) by omega]
    have e : d.take (4 * (k + 1)) = d.take 4 ++ (d.drop 4).take (4 * k) := by
      rw [show 4 * (k + 1) = 4 + 4 * k by omega, List.take_add]
    have hov : ∀ t : List UInt8, t.length = 4 → ovw (ovw f.b o (d.take 4)) (o + 4) ((d.drop 4).take (4 * k) ++ t) = ovw f.b o (d.take (4 * (k + 1)) ++ t) := by
      intro t ht
      have := ovw_ovw (b := f.b) (l := d.take 4) (m := (d.drop 4).take (4 * k) ++ t) (o := o) (by rw [h4]; simp; omega)
      rwa [h4, ← List.append_assoc, ← e] at this
    rw [hov _ (by rw [tornB_len] <;> simp [byL_len] <;> omega)]
end Go.Fw
namespace Go.Fw
theorem bit255 (k : Nat) (h : k < 8) : (255#8)[k] = true := by
  have : (255#8) = BitVec.allOnes 8 := rfl
  simp only [this, BitVec.getElem_allOnes]
theorem u8_or_and {x y : UInt8} (h : x ||| y = x) : x &&& y = y := by
  rw [← h]
  apply UInt8.toBitVec_inj.1
  ext i hi
  simp
  cases y.toBitVec[i] <;> simp
theorem torn255 (y z : UInt8) : (255 &&& ~~~(~~~y &&& z)) ||| y = 255 &&& ~~~(~~~y &&& z) := by
  apply UInt8.toBitVec_inj.1
  ext i hi
  have h255 := bit255 i (by assumption)
  simp [h255]
  cases y.toBitVec[i] <;> simp
/-- Bytes that are still to fall. -/
def above (x d : List UInt8) : Prop := x.length = d.length ∧ ∀ i, x.getD i 0 ||| d.getD i 0 = x.getD i 0
theorem above_and {x d : List UInt8} (h : above x d) : andB x d = d := by
  refine List.ext_getElem (by rw [andB_len h.1]) fun i h1 h2 => ?_
  have h3 := h.2 i
  have h4 := h.1
  have h5 : i < x.length := by omega
  rw [List.getD_eq_getElem?_getD, List.getD_eq_getElem?_getD, List.getElem?_eq_getElem h5, List.getElem?_eq_getElem h2] at h3
  simp only [andB, List.getElem_zipWith]
  exact u8_or_and h3
/-- The bytes of a page that was torn. -/
def tornX (n m t : Nat) (d : List UInt8) : List UInt8 := d.take (4 * n) ++ tornB (List.replicate 4 255) ((d.drop (4 * n)).take 4) (byL 4 t) ++ List.replicate (4 * m - 4 * n - 4) 255
theorem tornX_len {n m t : Nat} {d : List UInt8} (hn : n < m) (hd : d.length = 4 * m) : (tornX n m t d).length = 4 * m := by
  simp [tornX, tornB, byL_len, hd]; omega
theorem tornX_lo {n m t i : Nat} {d : List UInt8} (hn : n < m) (hd : d.length = 4 * m) (hi : i < 4 * n) : (tornX n m t d).getD i 0 = d.getD i 0 := by
  simp only [tornX, List.getD_eq_getElem?_getD]
  rw [List.append_assoc, List.getElem?_append_left (by simp; omega), List.getElem?_take_of_lt hi]
theorem tornX_mid {n m t i : Nat} {d : List UInt8} (hn : n < m) (hd : d.length = 4 * m) (h1 : 4 * n ≤ i) (h2 : i < 4 * n + 4) : (tornX n m t d).getD i 0 ||| d.getD i 0 = (tornX n m t d).getD i 0 := by
  obtain ⟨j, rfl⟩ : ∃ j, i = 4 * n + j := ⟨i - 4 * n, by omega⟩
  have hj : j < 4 := by omega
  have e1 : (tornX n m t d).getD (4 * n + j) 0 = 255 &&& ~~~(~~~(d.getD (4 * n + j) 0) &&& UInt8.ofNat (t / 256 ^ j)) := by
    simp only [tornX, List.getD_eq_getElem?_getD]
    rw [List.append_assoc, List.getElem?_append_right (by simp; omega), List.length_take, Nat.min_eq_left (by omega), Nat.add_sub_cancel_left, List.getElem?_append_left (by simp [tornB, byL_len]; omega)]
    have hdj : (d.drop (4 * n))[j]? = d[4 * n + j]? := List.getElem?_drop
    have hx : d[4 * n + j]? = some (d[4 * n + j]'(by omega)) := List.getElem?_eq_getElem (by omega)
    have hz : (List.zip (List.take 4 (List.drop (4 * n) d)) (byL 4 t))[j]? = some (d[4 * n + j]'(by omega), UInt8.ofNat (t / 256 ^ j)) := by
      rw [List.getElem?_zip_eq_some]
      exact ⟨by rw [List.getElem?_take_of_lt hj, hdj, hx], byL_get hj⟩
    have hzz : (List.zip (List.replicate 4 (255 : UInt8)) (List.zip (List.take 4 (List.drop (4 * n) d)) (byL 4 t)))[j]? = some (255, d[4 * n + j]'(by omega), UInt8.ofNat (t / 256 ^ j)) := by
      rw [List.getElem?_zip_eq_some]
      exact ⟨by rw [List.getElem?_replicate, if_pos hj], hz⟩
    rw [tornB, List.getElem?_map, hzz, hx]
    rfl
  rw [e1]
  exact torn255 _ _
theorem tornX_hi {n m t i : Nat} {d : List UInt8} (hn : n < m) (hd : d.length = 4 * m) (h1 : 4 * n + 4 ≤ i) (h2 : i < 4 * m) : (tornX n m t d).getD i 0 = 255 := by
  simp only [tornX, List.getD_eq_getElem?_getD]
  rw [List.getElem?_append_right (by simp [tornB, byL_len, hd]; omega), List.getElem?_replicate, if_pos (by simp [tornB, byL_len, hd]; omega)]
  rfl
theorem tornX_above {n m t : Nat} {d : List UInt8} (hn : n < m) (hd : d.length = 4 * m) : above (tornX n m t d) d := by
  refine ⟨by rw [tornX_len hn hd, hd], fun i => ?_⟩
  by_cases h1 : i < 4 * n
  · rw [tornX_lo hn hd h1]; simp
  by_cases h2 : i < 4 * n + 4
  · exact tornX_mid hn hd (by omega) h2
  by_cases h3 : i < 4 * m
  · rw [tornX_hi hn hd (by omega) h3]
    generalize d.getD i 0 = y
    apply UInt8.toBitVec_inj.1
    ext k hk
    have h255 := bit255 k (by assumption)
    simp [h255]
  · have e1 : (tornX n m t d).getD i 0 = 0 := by rw [List.getD_eq_getElem?_getD, List.getElem?_eq_none (by rw [tornX_len hn hd]; omega)]; rfl
    have e2 : d.getD i 0 = 0 := by rw [List.getD_eq_getElem?_getD, List.getElem?_eq_none (by omega)]; rfl
    rw [e1, e2]; rfl
theorem above_rep {d : List UInt8} {m : Nat} (h : d.length = m) : above (List.replicate m 255) d := by
  refine ⟨by simp [h], fun i => ?_⟩
  by_cases hi : i < m
  · rw [List.getD_eq_getElem?_getD, List.getElem?_replicate, if_pos hi]
    generalize d.getD i 0 = y
    apply UInt8.toBitVec_inj.1
    ext k hk
    have h255 := bit255 k (by assumption)
    simp [h255]
  · have e2 : d.getD i 0 = 0 := by rw [List.getD_eq_getElem?_getD, List.getElem?_eq_none (by omega)]; rfl
    rw [List.getD_eq_getElem?_getD, List.getElem?_replicate, if_neg hi, e2]; rfl
end Go.Fw
namespace Go.Fw
theorem tornX_of {n m t : Nat} {d : List UInt8} (hn : n < m) (hm : m ≤ 64) (hd : d.length = 4 * m) : (ovw (List.replicate 256 255) 0 (d.take (4 * n) ++ tornB (((List.replicate 256 (255 : UInt8)).drop (0 + 4 * n)).take 4) ((d.drop (4 * n)).take 4) (byL 4 t))).take (4 * m) = tornX n m t d := by
  have h1 : ((List.replicate 256 (255 : UInt8)).drop (0 + 4 * n)).take 4 = List.replicate 4 255 := by
    rw [List.drop_replicate, List.take_replicate]; congr 1; omega
  rw [h1]
  have h2 : (d.take (4 * n) ++ tornB (List.replicate 4 255) ((d.drop (4 * n)).take 4) (byL 4 t)).length = 4 * n + 4 := by
    simp only [List.length_append, List.length_take, tornB, List.length_map, List.length_zip, List.length_replicate, List.length_drop, byL_len]; omega
  rw [ovw, List.take_zero, List.nil_append, h2, List.drop_replicate, List.take_append, h2, List.take_of_length_le (by omega), List.take_replicate, tornX]
  congr 2
  omega
end Go.Fw
