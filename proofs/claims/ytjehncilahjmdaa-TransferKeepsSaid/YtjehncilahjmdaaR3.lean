/-
  Records in two pages, while the power goes: bits, torn words, pages.
-/
import Derived.Test.YtjehncilahjmdaaR2
set_option linter.unusedSimpArgs false
set_option linter.unnecessarySimpa false
set_option linter.unusedVariables false
set_option linter.unusedSectionVars false
namespace Go.Fw
/-- What the tear is in an act. -/
def kkN (i : Nat) : Nat := i * 2654435769 % 4294967296
def tkN (t i : Nat) : Nat := t ^^^ kkN i
theorem tkN_bit (t i k : Nat) : (tkN t i).testBit k = (t.testBit k != (kkN i).testBit k) := by
  unfold tkN; rw [Nat.testBit_xor]
/-- A bit of a page's first word. -/
def bitW (P : List UInt8) (k : Nat) : Bool := (P.getD (k / 8) 0).toNat.testBit (k % 8)
theorem tears_ne : ∀ j, j < 20 → ∀ m, m < 20 → j ≠ m → ∃ k, k < 32 ∧ markN.testBit k = true ∧ (kkN j).testBit k ≠ (kkN m).testBit k := by decide +kernel
theorem tears_no : ∀ n, n < 20 → ∀ i, i < n → ¬ ((∀ q, q < 4 → ((!markN.testBit q) != ((kkN n).testBit q != (kkN i).testBit q)) = true) ∧ ((!markN.testBit 20) != ((kkN n).testBit 20 != (kkN i).testBit 20)) = false ∧ ((!markN.testBit 21) != ((kkN n).testBit 21 != (kkN i).testBit 21)) = false ∧ ¬ ∀ q, q < 4 → ((!markN.testBit (28 + q)) != ((kkN n).testBit (28 + q) != (kkN i).testBit (28 + q))) = true) := by decide +kernel
theorem mark_byte : ∀ q, q < 4 → ∃ k, k < 8 ∧ markN.testBit (8 * q + k) = true := by decide +kernel
theorem mark_hole : ∃ k, k < 32 ∧ markN.testBit k = false := ⟨0, by decide, by decide +kernel⟩
/-- May the page become a record with a number that is not below s? -/
def harm (s : Nat) (P : List UInt8) : Prop := (parseR (byL 4 markN ++ (P.take 160).drop 4)).2 = 0 ∧ ¬ (parseR (byL 4 markN ++ (P.take 160).drop 4)).1.seq < s
/-- The page that is not the newest, before act n. -/
def okPg (t n s : Nat) (P : List UInt8) : Prop := P.length = 256 ∧ (¬ harm s P ∨ (∃ k, k < 32 ∧ markN.testBit k = true ∧ bitW P k = false) ∨
  (∃ i, i < n ∧ (∀ q, q < 4 → (tkN t i).testBit q = true) ∧ (tkN t i).testBit 20 = false ∧ (tkN t i).testBit 21 = false ∧ (¬ ∀ q, q < 4 → (tkN t i).testBit (28 + q) = true) ∧ ∀ k, k < 32 → bitW P k = true) ∨
  (∃ j, j < n ∧ (∀ k, k < 32 → bitW P k = !(tkN t j).testBit k) ∧ ∃ k, k < 32 ∧ bitW P k = true ∧ markN.testBit k = false))
/-- The first word's power goes while it is to be 0. -/
def zeroT (t : Nat) (P : List UInt8) : List UInt8 := ovw P 0 (tornB (P.take 4) [0, 0, 0, 0] (byL 4 t))
/-- The page's power goes while it is erased. -/
def eraseT (t : Nat) (P : List UInt8) : List UInt8 := pageF false t (ovw P 0 [0, 0, 0, 0])
theorem byL_getD {n i v : Nat} (h : i < n) : (byL n v).getD i 0 = UInt8.ofNat (v / 256 ^ i) := by
  simp [byL, List.getD_eq_getElem?_getD, h]
theorem byL_bit {v i k : Nat} (hi : i < 4) (hk : k < 8) : ((byL 4 v).getD i 0).toNat.testBit k = v.testBit (8 * i + k) := by
  rw [byL_getD hi, UInt8.toNat_ofNat', show (256 : Nat) ^ i = 2 ^ (8 * i) by rw [Nat.pow_mul], Nat.testBit_mod_two_pow, Nat.testBit_div_two_pow]
  simp [hk, Nat.add_comm]
theorem u8_not_bit (x : UInt8) {m : Nat} (hm : m < 8) : (~~~ x).toNat.testBit m = !x.toNat.testBit m := by
  rw [UInt8.toNat_not, show UInt8.size - 1 - x.toNat = 2 ^ 8 - (x.toNat + 1) by show 256 - 1 - x.toNat = 256 - (x.toNat + 1); omega, Nat.testBit_two_pow_sub_succ x.toNat_lt]
  simp [hm]
theorem zeroT_bit {t : Nat} {P : List UInt8} (hP : P.length = 256) {k : Nat} (hk : k < 32) : bitW (zeroT t P) k = (bitW P k && !t.testBit k) := by
  have h4 : (P.take 4).length = 4 := by simp [hP]
  have hl : (tornB (P.take 4) [0, 0, 0, 0] (byL 4 t)).length = 4 := by simp [tornB, byL_len, hP]
  have hq : k / 8 < 4 := by omega
  have e1 : (zeroT t P).getD (k / 8) 0 = P.getD (k / 8) 0 &&& ~~~ ((byL 4 t).getD (k / 8) 0) := by
    simp only [zeroT, ovw, List.take_zero, List.nil_append, List.getD_eq_getElem?_getD]
    rw [List.getElem?_append_left (by omega)]
    have hb : k / 8 < (byL 4 t).length := by rw [byL_len]; exact hq
    have hPq : k / 8 < P.length := by omega
    rw [List.getElem?_eq_getElem (by omega), List.getElem?_eq_getElem hPq, List.getElem?_eq_getElem hb]
    simp only [Option.getD_some, tornB, List.getElem_map, List.getElem_zip, List.getElem_take]
    have h0 : ([0, 0, 0, 0] : List UInt8)[k / 8]'(by simpa using hq) = 0 := by
      rcases (show k / 8 = 0 ∨ k / 8 = 1 ∨ k / 8 = 2 ∨ k / 8 = 3 by omega) with h | h | h | h <;> simp [h]
    rw [h0]
    congr 2
    apply UInt8.toBitVec_inj.1
    ext i hi
    simp
  unfold bitW
  rw [e1, UInt8.toNat_and, Nat.testBit_and]
  congr 1
  have e2 : t.testBit k = ((byL 4 t).getD (k / 8) 0).toNat.testBit (k % 8) := by
    rw [byL_bit hq (by omega)]; congr 1; omega
  rw [e2]
  generalize (byL 4 t).getD (k / 8) 0 = x
  have hm : k % 8 < 8 := by omega
  generalize k % 8 = m at hm
  exact u8_not_bit x hm
theorem zeroT_drop {t : Nat} {P : List UInt8} (hP : P.length = 256) : (zeroT t P).length = 256 ∧ ((zeroT t P).take 160).drop 4 = (P.take 160).drop 4 := by
  have hl : (tornB (P.take 4) [0, 0, 0, 0] (byL 4 t)).length = 4 := by simp [tornB, byL_len, hP]
  refine ⟨by rw [zeroT, ovw_len (by omega), hP], ?_⟩
  rw [List.drop_take, List.drop_take, zeroT, ovw_drop (by omega) (by omega)]
theorem zeroP_drop {P : List UInt8} (hP : P.length = 256) : (ovw P 0 [0, 0, 0, 0]).length = 256 := by rw [ovw_len (by simp; omega), hP]
theorem eraseT_get {t : Nat} {P : List UInt8} (hP : P.length = 256) {k : Nat} (hk : k < 32) : (eraseT t P).getD k 0 = if t.testBit k = true then 255 else if k < 4 then 0 else P.getD k 0 := by
  have h1 := zeroP_drop hP
  have h2 : (pageF false t (ovw P 0 [0, 0, 0, 0])).length = 256 := by rw [pageF_len, h1]
  have h3 : (pageF false t (ovw P 0 [0, 0, 0, 0]))[k]'(by omega) = if false = true ∨ t / 2 ^ (k % 32) % 2 = 1 then 255 else (ovw P 0 [0, 0, 0, 0])[k]'(by omega) := by
    unfold pageF; exact List.getElem_mapIdx ..
  have h4 : (ovw P 0 [0, 0, 0, 0])[k]'(by omega) = if k < 4 then 0 else P.getD k 0 := by
    have h5 : (ovw P 0 [0, 0, 0, 0]).getD k 0 = (ovw P 0 [0, 0, 0, 0])[k]'(by omega) := by rw [List.getD_eq_getElem?_getD, List.getElem?_eq_getElem (by omega)]; rfl
    rw [← h5]
    split
    · rename_i q
      rcases (show k = 0 ∨ k = 1 ∨ k = 2 ∨ k = 3 by omega) with rfl | rfl | rfl | rfl <;> rfl
    · rename_i q
      obtain ⟨m, rfl⟩ : ∃ m, k = 4 + m := ⟨k - 4, by omega⟩
      simp only [ovw, List.take_zero, List.nil_append, List.getD_eq_getElem?_getD]
      rw [List.getElem?_append_right (by simp), List.getElem?_drop]
      simp
  rw [eraseT, List.getD_eq_getElem?_getD, List.getElem?_eq_getElem (by omega), Option.getD_some, h3, h4, Nat.mod_eq_of_lt hk, Nat.testBit_eq_decide_div_mod_eq]
  simp
theorem not_harm {s : Nat} {P : List UInt8} (h : (parseR (byL 4 markN ++ (P.take 160).drop 4)).2 ≠ 0) : ¬ harm s P := fun hh => h hh.1
/-- A page whose phase or length are all bits 1 is no record. -/
theorem no_rec {b : List UInt8} (h : (b.getD 20 0) = 255 ∨ b.getD 21 0 = 255) : (parseR b).2 ≠ 0 := by
  unfold parseR
  split
  · simp
  split
  · simp
  rename_i h1 h2
  split
  · simp
  rename_i h3
  split
  · rename_i h4
    exfalso
    rcases h with h | h
    · unfold encF at h4
      split at h4
      · rename_i hr
        simp only [Rec.right, decide_eq_true_eq, recOf, h] at hr
        exact absurd hr.2.2.1 (by decide)
      · injection h4 with h5 h6; exact absurd h6 (by decide)
    · rw [h] at h3; exact absurd h3 (by decide)
  · simp
theorem no_sum {b : List UInt8} (h : at4 b 156 = 4294967295 ∨ at4 b 156 ≠ recSum (b.take 156)) : (parseR b).2 ≠ 0 := by
  have : recSum (b.take 156) ≠ at4 b 156 := by
    rcases h with h | h
    · rw [h]; exact recSum_ne _
    · exact fun e => h e.symm
  unfold parseR
  rw [if_pos this]
  split
  · simp
  · exact (by decide : (8 : Int) ≠ 0)
theorem parse_mark {b : List UInt8} (h : (parseR b).2 = 0) : b.length = 160 ∧ at4 b 0 = markN := by
  unfold parseR at h
  split at h
  · simp at h
  · rename_i q; exact Classical.not_not.1 q
end Go.Fw
namespace Go.Fw
theorem harm_zero {s t : Nat} {P : List UInt8} (hP : P.length = 256) : harm s (zeroT t P) ↔ harm s P := by
  unfold harm; rw [(zeroT_drop hP).2]
theorem okPg_zero {t n s : Nat} {P : List UInt8} (hn : n < 20) (h : okPg t n s P) : okPg t (n + 1) s (zeroT (tkN t n) P) := by
  obtain ⟨hP, h⟩ := h
  refine ⟨(zeroT_drop hP).1, ?_⟩
  rcases h with h | ⟨k, h1, h2, h3⟩ | ⟨i, h1, h2, h3, h4, h6, h5⟩ | ⟨j, h1, h2, h3⟩
  · exact .inl fun hh => h ((harm_zero hP).1 hh)
  · exact .inr (.inl ⟨k, h1, h2, by rw [zeroT_bit hP h1, h3]; rfl⟩)
  · by_cases hA : ∃ k, k < 32 ∧ markN.testBit k = true ∧ bitW (zeroT (tkN t n) P) k = false
    · exact .inr (.inl hA)
    by_cases hC : ∃ k, k < 32 ∧ bitW (zeroT (tkN t n) P) k = true ∧ markN.testBit k = false
    · exact .inr (.inr (.inr ⟨n, by omega, fun k hk => by rw [zeroT_bit hP hk, h5 k hk]; simp, hC⟩))
    exfalso
    have hb : ∀ k, k < 32 → (tkN t n).testBit k = !markN.testBit k := by
      intro k hk
      have e := zeroT_bit (t := tkN t n) hP hk
      rw [h5 k hk, Bool.true_and] at e
      cases hm : markN.testBit k with
      | true =>
        cases hz : bitW (zeroT (tkN t n) P) k with
        | true => rw [hz] at e; cases hx : (tkN t n).testBit k with
          | true => rw [hx] at e; cases e
          | false => rfl
        | false => exact absurd ⟨k, hk, hm, hz⟩ hA
      | false =>
        cases hz : bitW (zeroT (tkN t n) P) k with
        | true => exact absurd ⟨k, hk, hz, hm⟩ hC
        | false => rw [hz] at e; cases hx : (tkN t n).testBit k with
          | true => rfl
          | false => rw [hx] at e; cases e
    have hx : ∀ q, q < 32 → (tkN t i).testBit q = ((!markN.testBit q) != ((kkN n).testBit q != (kkN i).testBit q)) := by
      intro q hq
      have e1 := hb q hq
      rw [tkN_bit] at e1
      rw [tkN_bit, ← e1]
      cases t.testBit q <;> cases (kkN n).testBit q <;> cases (kkN i).testBit q <;> rfl
    exact tears_no n hn i h1 ⟨fun q hq => by rw [← hx q (by omega)]; exact h2 q hq, by rw [← hx 20 (by decide)]; exact h3, by rw [← hx 21 (by decide)]; exact h4, fun z => h6 fun q hq => by rw [hx (28 + q) (by omega)]; exact z q hq⟩
  · obtain ⟨k, hk, e1, e2⟩ := tears_ne j (by omega) n hn (by omega)
    refine .inr (.inl ⟨k, hk, e1, ?_⟩)
    rw [zeroT_bit hP hk, h2 k hk, tkN_bit, tkN_bit]
    revert e2
    cases t.testBit k <;> cases (kkN j).testBit k <;> cases (kkN n).testBit k <;> simp
theorem okPg_erase {t n s : Nat} {P : List UInt8} (h : P.length = 256) : okPg t (n + 1) s (eraseT (tkN t n) P) := by
  have hl : (eraseT (tkN t n) P).length = 256 := by rw [eraseT, pageF_len, zeroP_drop h]
  refine ⟨hl, ?_⟩
  have hrest : ∀ k, 4 ≤ k → k < 32 → (byL 4 markN ++ ((eraseT (tkN t n) P).take 160).drop 4).getD k 0 = (eraseT (tkN t n) P).getD k 0 := by
    intro k h1 h2
    obtain ⟨m, rfl⟩ : ∃ m, k = 4 + m := ⟨k - 4, by omega⟩
    simp only [List.getD_eq_getElem?_getD]
    rw [List.getElem?_append_right (by simp [byL_len]), List.getElem?_drop, byL_len, Nat.add_sub_cancel_left, List.getElem?_take_of_lt (by omega)]
  cases h20 : (tkN t n).testBit 20 with
  | true => exact .inl (not_harm (no_rec (.inl (by rw [hrest 20 (by decide) (by decide), eraseT_get h (by decide), if_pos h20]))))
  | false =>
  cases h21 : (tkN t n).testBit 21 with
  | true => exact .inl (not_harm (no_rec (.inr (by rw [hrest 21 (by decide) (by decide), eraseT_get h (by decide), if_pos h21]))))
  | false =>
  by_cases h28 : ∀ q, q < 4 → (tkN t n).testBit (28 + q) = true
  · refine .inl (not_harm (no_sum (.inl ?_)))
    have hb : (byL 4 markN ++ ((eraseT (tkN t n) P).take 160).drop 4).length = 160 := by simp [byL_len, hl]
    have hget : ∀ q, q < 4 → (byL 4 markN ++ ((eraseT (tkN t n) P).take 160).drop 4).getD (156 + q) 0 = 255 := by
      intro q hq
      simp only [List.getD_eq_getElem?_getD]
      rw [List.getElem?_append_right (by simp [byL_len]; omega), List.getElem?_drop, byL_len, show 4 + (156 + q - 4) = 156 + q by omega, List.getElem?_take_of_lt (by omega)]
      have hz : (eraseT (tkN t n) P)[156 + q]? = some 255 := by
        have hzl := zeroP_drop h
        unfold eraseT pageF
        rw [List.getElem?_mapIdx, List.getElem?_eq_getElem (by omega)]
        have hbit := h28 q hq
        rw [Nat.testBit_eq_decide_div_mod_eq, decide_eq_true_eq] at hbit
        simp only [Option.map_some, Option.some.injEq, Bool.false_eq_true, false_or]
        rw [show (156 + q) % 32 = 28 + q by omega, if_pos hbit]
      rw [hz]; rfl
    have g0 := hget 0 (by decide)
    have g1 := hget 1 (by decide)
    have g2 := hget 2 (by decide)
    have g3 := hget 3 (by decide)
    generalize byL 4 markN ++ ((eraseT (tkN t n) P).take 160).drop 4 = b at hb g0 g1 g2 g3
    have e : (b.drop 156).take 4 = [255, 255, 255, 255] := by
      refine List.ext_getElem (by simp; omega) fun i i1 i2 => ?_
      rw [List.getElem_take, List.getElem_drop]
      have gg : ∀ q, b.getD (156 + q) 0 = 255 → (hq : 156 + q < b.length) → b[156 + q] = 255 := by
        intro q hx hq
        rw [List.getD_eq_getElem?_getD, List.getElem?_eq_getElem hq] at hx
        exact hx
      simp at i2
      rcases (show i = 0 ∨ i = 1 ∨ i = 2 ∨ i = 3 by omega) with rfl | rfl | rfl | rfl
      · exact gg 0 g0 _
      · exact gg 1 g1 _
      · exact gg 2 g2 _
      · exact gg 3 g3 _
    unfold at4
    rw [e]; decide
  by_cases h4 : ∀ q, q < 4 → (tkN t n).testBit q = true
  · refine .inr (.inr (.inl ⟨n, by omega, h4, h20, h21, h28, fun k hk => ?_⟩))
    unfold bitW
    rw [eraseT_get h (by omega), if_pos (h4 _ (by omega))]
    have hm : k % 8 < 8 := by omega
    generalize k % 8 = m at hm
    revert m
    decide
  · obtain ⟨q, hq⟩ := Classical.not_forall.1 h4
    obtain ⟨hq4, hq⟩ := Classical.not_imp.1 hq
    obtain ⟨k, hk, hm⟩ := mark_byte q hq4
    refine .inr (.inl ⟨8 * q + k, by omega, hm, ?_⟩)
    unfold bitW
    rw [show (8 * q + k) / 8 = q by omega, eraseT_get h (by omega), if_neg hq, if_pos hq4]
    simp
end Go.Fw
namespace Go.Fw
theorem mark_head {b : List UInt8} (hl : 4 ≤ b.length) (h : at4 b 0 = markN) : b = byL 4 markN ++ b.drop 4 := by
  have h1 : (b.take 4).length = 4 := by simp; omega
  have h2 := byL_byN (b.take 4)
  rw [h1] at h2
  have h3 : byN (b.take 4) = markN := h
  rw [h3] at h2
  rw [h2, List.take_append_drop]
theorem mark_bits {P : List UInt8} (h : P.take 4 = byL 4 markN) {k : Nat} (hk : k < 32) : bitW P k = markN.testBit k := by
  unfold bitW
  have e : P.getD (k / 8) 0 = (byL 4 markN).getD (k / 8) 0 := by
    rw [← h]
    simp only [List.getD_eq_getElem?_getD]
    rw [List.getElem?_take_of_lt (by omega)]
  rw [e, byL_bit (by omega) (by omega)]
  congr 1; omega
theorem okPg_mono {t n s m q : Nat} {P : List UInt8} (h : okPg t n s P) (hn : n ≤ m) (hs : s ≤ q) : okPg t m q P := by
  obtain ⟨hP, h⟩ := h
  refine ⟨hP, ?_⟩
  rcases h with h | h | ⟨i, h1, h2⟩ | ⟨j, h1, h2⟩
  · exact .inl fun hh => h ⟨hh.1, fun q => hh.2 (by omega)⟩
  · exact .inr (.inl h)
  · exact .inr (.inr (.inl ⟨i, by omega, h2⟩))
  · exact .inr (.inr (.inr ⟨j, by omega, h2⟩))
theorem okPg_read {t n s : Nat} {P : List UInt8} (h : okPg t n s P) (hp : (parseR (P.take 160)).2 = 0) : (parseR (P.take 160)).1.seq < s := by
  obtain ⟨hP, h⟩ := h
  obtain ⟨h1, h2⟩ := parse_mark hp
  have h3 := mark_head (by omega) h2
  have h4 : P.take 4 = byL 4 markN := by
    have := congrArg (List.take 4) h3
    rw [List.take_take, List.take_left' (byL_len 4 markN)] at this
    simpa using this
  refine Classical.byContradiction fun hc => ?_
  have hh : harm s P := by unfold harm; rw [← h3]; exact ⟨hp, hc⟩
  rcases h with h | ⟨k, hk, k1, k2⟩ | ⟨i, _, _, _, _, _, h5⟩ | ⟨j, _, _, k, hk, k1, k2⟩
  · exact h hh
  · rw [mark_bits h4 hk, k1] at k2; cases k2
  · obtain ⟨k, hk, k1⟩ := mark_hole
    have := h5 k hk
    rw [mark_bits h4 hk, k1] at this; cases this
  · rw [mark_bits h4 hk, k2] at k1; cases k1
theorem okPg_rec {t n s : Nat} {P : List UInt8} (hP : P.length = 256) (h : (parseR (P.take 160)).2 = 0 → (parseR (P.take 160)).1.seq < s) (h0 : at4 (P.take 160) 0 = markN) : okPg t n s P := by
  refine ⟨hP, .inl fun hh => ?_⟩
  have h3 := mark_head (by simp; omega) h0
  unfold harm at hh
  rw [← h3] at hh
  exact hh.2 (h hh.1)
/-- A page in which the words of a record end. -/
def progT (k t : Nat) (c : List UInt8) : List UInt8 := ovw (List.replicate 256 255) 0 (c.take (4 * k) ++ tornB (List.replicate 4 255) ((c.drop (4 * k)).take 4) (byL 4 t))
theorem progT_len {k t : Nat} {c : List UInt8} (hk : k < 40) (hc : c.length = 160) : (progT k t c).length = 256 := by
  have h : (c.take (4 * k) ++ tornB (List.replicate 4 255) ((c.drop (4 * k)).take 4) (byL 4 t)).length = 4 * k + 4 := by simp [tornB, byL_len, hc]; omega
  rw [progT, ovw_len (by rw [h, List.length_replicate]; omega), List.length_replicate]
theorem okPg_prog {k t u n s : Nat} {c : List UInt8} (hk : k < 40) (hc : c.length = 160) (hm : c.take 4 = byL 4 markN) (hs : at4 c 156 = recSum (c.take 156)) : (progT k t c).take 160 = c ∨ okPg u n s (progT k t c) := by
  obtain ⟨w, hw⟩ : ∃ w, w = tornB (List.replicate 4 255) ((c.drop (4 * k)).take 4) (byL 4 t) := ⟨_, rfl⟩
  have hwl : w.length = 4 := by rw [hw]; simp [tornB, byL_len, hc]; omega
  have hP : progT k t c = c.take (4 * k) ++ w ++ List.replicate (252 - 4 * k) 255 := by
    rw [progT, ← hw, ovw]
    simp only [List.take_zero, List.nil_append, Nat.zero_add, List.length_append, List.length_take, hwl, hc, List.drop_replicate]
    rw [show 256 - (min (4 * k) 160 + 4) = 252 - 4 * k by omega]
  have hlen := progT_len (t := t) hk hc
  by_cases h39 : k = 39
  · subst h39
    have h1 : (progT 39 t c).take 160 = c.take 156 ++ w := by
      rw [hP, List.take_left' (by simp [hwl, hc])]
    by_cases hx : byN w = recSum (c.take 156)
    · left
      rw [h1]
      have h2 : byN (c.drop 156) = recSum (c.take 156) := by
        rw [← hs]; unfold at4; rw [List.take_of_length_le (by simp; omega)]
      have h3 : w = c.drop 156 := by
        have e1 := byL_byN w
        have e2 := byL_byN (c.drop 156)
        rw [hwl, hx] at e1
        rw [show (c.drop 156).length = 4 by simp [hc], h2] at e2
        rw [← e1, ← e2]
      rw [h3, List.take_append_drop]
    · right
      refine ⟨hlen, .inl (not_harm (no_sum (.inr ?_)))⟩
      have h2 : byL 4 markN ++ ((progT 39 t c).take 160).drop 4 = c.take 156 ++ w := by
        rw [h1, ← hm]
        have : c.take 4 = (c.take 156 ++ w).take 4 := by rw [List.take_append_of_le_length (by simp; omega), List.take_take]; rfl
        rw [this, List.take_append_drop]
      have h156 : (c.take 156).length = 156 := by simp [hc]
      rw [h2, List.take_left' h156]
      unfold at4
      rw [List.drop_left' h156, List.take_of_length_le (by omega)]
      exact hx
  · right
    refine ⟨hlen, .inl (not_harm (no_sum (.inl ?_)))⟩
    have h1 : ((byL 4 markN ++ ((progT k t c).take 160).drop 4).drop 156).take 4 = List.replicate 4 255 := by
      rw [show 156 = (byL 4 markN).length + 152 by rw [byL_len], List.drop_length_add_append, List.drop_drop, List.drop_take, List.take_take, hP, List.drop_append, List.drop_of_length_le (by simp [hwl, hc]; omega), List.nil_append, List.drop_replicate, List.take_replicate]
      congr 1
      simp only [List.length_append, List.length_take, hwl, hc]
      omega
    unfold at4
    rw [h1]
    decide
end Go.Fw
