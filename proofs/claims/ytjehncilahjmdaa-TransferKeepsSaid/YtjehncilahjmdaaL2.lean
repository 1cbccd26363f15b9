/-
  Words that are programmed one behind the other: whole, or torn.
-/
import Derived.Test.YtjehncilahjmdaaL1
set_option linter.unusedSimpArgs false
set_option linter.unnecessarySimpa false
set_option linter.unusedVariables false
set_option linter.unusedSectionVars false
namespace Go.Fw
theorem ovw_drop' {b l : List UInt8} {o : Nat} (h : o ≤ b.length) (j : Nat) : (ovw b o l).drop (o + l.length + j) = b.drop (o + l.length + j) := by
  have h1 : (b.take o ++ l).length = o + l.length := by simp; omega
  rw [ovw, ← h1, List.drop_length_add_append, h1, List.drop_drop]
theorem ovw_drop {b l : List UInt8} {o k : Nat} (h : o + l.length ≤ k) (hb : o ≤ b.length) : (ovw b o l).drop k = b.drop k := by
  obtain ⟨j, rfl⟩ : ∃ j, k = (o + l.length) + j := ⟨k - (o + l.length), by omega⟩
  exact ovw_drop' hb j
theorem ovw_ovw {b l m : List UInt8} {o : Nat} (h : o + l.length + m.length ≤ b.length) : ovw (ovw b o l) (o + l.length) m = ovw b o (l ++ m) := by
  have h1 : (b.take o ++ l).length = o + l.length := by simp; omega
  have e1 : (ovw b o l).take (o + l.length) = b.take o ++ l := by
    rw [ovw, ← h1, List.take_left]
  have e2 : (ovw b o l).drop (o + l.length + m.length) = b.drop (o + (l ++ m).length) := by
    rw [ovw_drop' (by omega), List.length_append, Nat.add_assoc]
  rw [ovw, e1, e2, ovw]
  simp only [List.append_assoc]
theorem ovw_take {b l : List UInt8} {o k : Nat} (h : k ≤ o) (hb : o ≤ b.length) : (ovw b o l).take k = b.take k := by
  rw [ovw, List.append_assoc, List.take_append_of_le_length (by simp; omega), List.take_take, Nat.min_eq_left h]
theorem andB_take (a b : List UInt8) (n : Nat) : (andB a b).take n = andB (a.take n) (b.take n) := List.take_zipWith
theorem andB_drop (a b : List UInt8) (n : Nat) : (andB a b).drop n = andB (a.drop n) (b.drop n) := List.drop_zipWith
/-- All words are programmed. -/
theorem wordsF_run : ∀ (n : Nat) (f : Fl) (o : Nat) (d : List UInt8), d.length = 4 * n → o + 4 * n ≤ f.b.length → andB ((f.b.drop o).take (4 * n)) d = d → (f.armed = true → (n : Int) ≤ f.left) →
    ∃ ops, wordsF n f o d = (0, { f with left := if f.armed = true then f.left - n else f.left, ops := ops, b := ovw f.b o d })
  | 0, f, o, d, hd, _, _, _ => by
    have : d = [] := List.eq_nil_of_length_eq_zero (by omega)
    subst this
    refine ⟨f.ops, ?_⟩
    rw [wordsF, ovw_nil]
    cases f; simp
  | n + 1, f, o, d, hd, ho, hb, ha => by
    have hw : andB ((f.b.drop o).take 4) (d.take 4) = d.take 4 := by
      have := congrArg (List.take 4) hb
      rwa [andB_take, List.take_take, Nat.min_eq_left (by omega)] at this
    have hs : stepF f = (true, { f with left := if f.armed = true then f.left - 1 else f.left, ops := IntKind.i64.wrap (f.ops + 1) }) := by
      unfold stepF; rw [if_neg]; rintro ⟨q, w⟩; have := ha q; omega
    have h1 : wordF f o (d.take 4) = (0, { f with left := if f.armed = true then f.left - 1 else f.left, ops := IntKind.i64.wrap (f.ops + 1), b := ovw f.b o (d.take 4) }) := by
      unfold wordF; rw [hs]; simp [hw]
    have h4 : (d.take 4).length = 4 := by simp; omega
    obtain ⟨ops, h2⟩ := wordsF_run n (wordF f o (d.take 4)).2 (o + 4) (d.drop 4) (by simp; omega) (by rw [h1]; simp only; rw [ovw_len (by omega)]; omega) (by
      rw [h1]; simp only
      rw [ovw_drop (by omega) (by omega)]
      have := congrArg (List.drop 4) hb
      rwa [andB_drop, List.drop_take, List.drop_drop, show 4 * (n + 1) - 4 = 4 * n by omega] at this) (by
      rw [h1]; simp only; intro q; rw [if_pos q]; have := ha q; omega)
    refine ⟨ops, ?_⟩
    rw [wordsF, if_pos (by rw [h1]), h2, h1]
    simp only
    have hov : ovw (ovw f.b o (d.take 4)) (o + 4) (d.drop 4) = ovw f.b o d := by
      have := ovw_ovw (b := f.b) (l := d.take 4) (m := d.drop 4) (o := o) (by rw [h4]; simp; omega)
      rwa [h4, List.take_append_drop] at this
    rw [hov]
    congr 2
    split <;> omega
/-- The power goes in a word. -/
theorem wordsF_tear : ∀ (k n : Nat) (f : Fl) (o : Nat) (d : List UInt8), k < n → d.length = 4 * n → o + 4 * n ≤ f.b.length → andB ((f.b.drop o).take (4 * n)) d = d → f.armed = true → f.left = k →
    ∃ ops, wordsF n f o d = (5, { f with left := 0, armed := false, off := true, ops := ops, b := ovw f.b o (d.take (4 * k) ++ tornB ((f.b.drop (o + 4 * k)).take 4) ((d.drop (4 * k)).take 4) (byL 4 f.tear)) })
  | 0, n, f, o, d, hk, hd, ho, hb, ha, hl => by
    obtain ⟨n, rfl⟩ : ∃ m, n = m + 1 := ⟨n - 1, by omega⟩
    have hs : stepF f = (false, { f with off := true, armed := false }) := by
      unfold stepF; rw [if_pos ⟨ha, by simpa using hl⟩]
    have h1 : wordF f o (d.take 4) = (5, { f with off := true, armed := false, b := ovw f.b o (tornB ((f.b.drop o).take 4) (d.take 4) (byL 4 f.tear)) }) := by
      unfold wordF; rw [hs]; simp
    refine ⟨f.ops, ?_⟩
    rw [wordsF, if_neg (by rw [h1]; simp), h1]
    simp [show f.left = 0 by simpa using hl]
  | k + 1, n, f, o, d, hk, hd, ho, hb, ha, hl => by
    obtain ⟨n, rfl⟩ : ∃ m, n = m + 1 := ⟨n - 1, by omega⟩
    have hw : andB ((f.b.drop o).take 4) (d.take 4) = d.take 4 := by
      have := congrArg (List.take 4) hb
      rwa [andB_take, List.take_take, Nat.min_eq_left (by omega)] at this
    have hs : stepF f = (true, { f with left := (k : Int), ops := IntKind.i64.wrap (f.ops + 1) }) := by
      unfold stepF; rw [if_neg (by rintro ⟨q, w⟩; omega), if_pos ha, hl]
      simp
    have h1 : wordF f o (d.take 4) = (0, { f with left := (k : Int), ops := IntKind.i64.wrap (f.ops + 1), b := ovw f.b o (d.take 4) }) := by
      unfold wordF; rw [hs]; simp [hw]
    have h4 : (d.take 4).length = 4 := by simp; omega
    obtain ⟨ops, h2⟩ := wordsF_tear k n (wordF f o (d.take 4)).2 (o + 4) (d.drop 4) (by omega) (by simp; omega) (by rw [h1]; simp only; rw [ovw_len (by omega)]; omega) (by
      rw [h1]; simp only
      rw [ovw_drop (by omega) (by omega)]
      have := congrArg (List.drop 4) hb
      rwa [andB_drop, List.drop_take, List.drop_drop, show 4 * (n + 1) - 4 = 4 * n by omega] at this) (by rw [h1]; exact ha) (by rw [h1])
    refine ⟨ops, ?_⟩
    rw [wordsF, if_pos (by rw [h1]), h2, h1]
    simp only
    rw [ovw_drop (by omega) (by omega), show o + 4 + 4 * k = o + 4 * (k + 1) by omega, List.drop_drop, show 4 + 4 * k = 4 * (k + 1) by omega]
    have e : d.take (4 * (k + 1)) = d.take 4 ++ (d.drop 4).take (4 * k) := by
      rw [show 4 * (k + 1) = 4 + 4 * k by omega, List.take_add]
    have hov : ∀ t : List UInt8, t.length = 4 → ovw (ovw f.b o (d.take 4)) (o + 4) ((d.drop 4).take (4 * k) ++ t) = ovw f.b o (d.take (4 * (k + 1)) ++ t) := by
      intro t ht
      have := ovw_ovw (b := f.b) (l := d.take 4) (m := (d.drop 4).take (4 * k) ++ t) (o := o) (by rw [h4]; simp; omega)
      rwa [h4, ← List.append_assoc, ← e] at this
    rw [hov _ (by rw [tornB_len] <;> simp [byL_len] <;> omega)]
end Go.Fw
namespace Go.Fw
theorem bit255 (k : Nat) (h : k < 8) : (255#8)[k] = true := by
  have : (255#8) = BitVec.allOnes 8 := rfl
  simp only [this, BitVec.getElem_allOnes]
theorem u8_or_and {x y : UInt8} (h : x ||| y = x) : x &&& y = y := by
  rw [← h]
  apply UInt8.toBitVec_inj.1
  ext i hi
  simp
  cases y.toBitVec[i] <;> simp
/-- Bytes that are still to fall. -/
def above (x d : List UInt8) : Prop := x.length = d.length ∧ ∀ i, x.getD i 0 ||| d.getD i 0 = x.getD i 0
theorem above_and {x d : List UInt8} (h : above x d) : andB x d = d := by
  refine List.ext_getElem (by rw [andB_len h.1]) fun i h1 h2 => ?_
  have h3 := h.2 i
  have h4 := h.1
  have h5 : i < x.length := by omega
  rw [List.getD_eq_getElem?_getD, List.getD_eq_getElem?_getD, List.getElem?_eq_getElem h5, List.getElem?_eq_getElem h2] at h3
  simp only [andB, List.getElem_zipWith]
  exact u8_or_and h3
theorem above_rep {d : List UInt8} {m : Nat} (h : d.length = m) : above (List.replicate m 255) d := by
  refine ⟨by simp [h], fun i => ?_⟩
  by_cases hi : i < m
  · rw [List.getD_eq_getElem?_getD, List.getElem?_replicate, if_pos hi]
    generalize d.getD i 0 = y
    apply UInt8.toBitVec_inj.1
    ext k hk
    have h255 := bit255 k (by assumption)
    simp [h255]
  · have e2 : d.getD i 0 = 0 := by rw [List.getD_eq_getElem?_getD, List.getElem?_eq_none (by omega)]; rfl
    rw [List.getD_eq_getElem?_getD, List.getElem?_replicate, if_neg hi, e2]; rfl
end Go.Fw
namespace Go.Fw
end Go.Fw
