/-
  What is done to pages that hold no settings.
-/
import Derived.Test.YtjehncilahjmdaaR5
import Derived.Test.YtjehncilahjmdaaTR1
set_option linter.unusedSimpArgs false
set_option linter.unnecessarySimpa false
set_option linter.unusedVariables false
set_option linter.unusedSectionVars false
namespace Go.Fw
theorem ovw_take_lo {b : List UInt8} {o k : Nat} {l : List UInt8} (hk : k ≤ o) (ho : o ≤ b.length) : (ovw b o l).take k = b.take k := by
  rw [ovw, List.append_assoc, List.take_append_of_le_length (by rw [List.length_take]; omega), List.take_take, Nat.min_eq_left hk]
theorem ovw_mid {b : List UInt8} {o : Nat} {l : List UInt8} (ho : o ≤ b.length) : ((ovw b o l).drop o).take l.length = l := by
  rw [ovw, List.append_assoc, List.drop_left' (by rw [List.length_take]; omega), List.take_left' rfl]
theorem rep_take_of {b : List UInt8} {n m : Nat} (h : b.take n = List.replicate n 255) (hm : m ≤ n) : b.take m = List.replicate m 255 := by
  have := congrArg (List.take m) h
  rwa [List.take_take, Nat.min_eq_left hm, List.take_replicate, Nat.min_eq_left hm] at this
theorem take_eq_of {a b : List UInt8} {n m : Nat} (h : a.take n = b.take n) (hm : m ≤ n) : a.take m = b.take m := by
  have := congrArg (List.take m) h
  rwa [List.take_take, List.take_take, Nat.min_eq_left hm] at this
theorem pg_take {a b : List UInt8} {n p : Nat} (h : a.take n = b.take n) (hn : 256 * p + 256 ≤ n) : pg a p = pg b p := by
  have h2 := congrArg (fun l => (l.drop (256 * p)).take 256) h
  simp only [List.drop_take, List.take_take] at h2
  rwa [Nat.min_eq_left (by omega)] at h2
/-- A page is erased. -/
theorem erase_hi {f : Fl} (h : Two f) (ho : f.off = false) {p : Nat} (hp : p < f.worn.length) :
    ∃ e g, eraseF f p = (e, g) ∧ Two g ∧ g.worn.length = f.worn.length ∧ g.tear = f.tear ∧ g.b.take (256 * p) = f.b.take (256 * p) ∧ (g.armed = true → f.armed = true) ∧
      ((e = 0 ∧ g.off = false ∧ (g.b.drop (256 * p)).take 256 = List.replicate 256 255) ∨ (e = 5 ∧ f.armed = true)) := by
  have hb := h.len
  have hw := h.worn
  obtain ⟨b1, b2, b3, b4, b5⟩ := stepF_b f
  obtain ⟨P, hP⟩ : ∃ P, P = (f.b.drop (256 * p)).take 256 := ⟨_, rfl⟩
  have hPl : P.length = 256 := by rw [hP, List.length_take, List.length_drop]; omega
  have he : eraseF f p = (if (stepF f).1 = false then (5, { (stepF f).2 with b := ovw f.b (256 * p) (pageF (stepF f).1 f.tear P) }) else (0, { (stepF f).2 with b := ovw f.b (256 * p) (pageF (stepF f).1 f.tear P), worn := f.worn.set p (IntKind.i64.wrap (f.worn.getD p 0 + 1)) })) := by
    unfold eraseF
    rw [if_neg (by rw [ho]; decide), if_neg (by omega), if_neg (by rw [h.hi]; omega), hP]
    rfl
  have hpf : ∀ w, (pageF w f.tear P).length = 256 := fun w => by rw [pageF_len, hPl]
  have hlen : ∀ w, (ovw f.b (256 * p) (pageF w f.tear P)).length = 256 * f.worn.length := fun w => by rw [ovw_len (by rw [hpf]; omega), hb]
  have harm : (stepF f).2.armed = true → f.armed = true := by
    unfold stepF; split
    · intro q; cases q
    · exact id
  rw [he]
  cases hs : (stepF f).1 with
  | true =>
    rw [if_neg (by decide)]
    refine ⟨0, _, rfl, ⟨b3.trans h.lo, b4.trans h.hi, ?_, ?_⟩, ?_, b5, ?_, harm, .inl ⟨rfl, ?_, ?_⟩⟩
    · show (ovw f.b (256 * p) (pageF true f.tear P)).length = 256 * (f.worn.set p _).length
      rw [List.length_set, hlen]
    · show 2 ≤ (f.worn.set p _).length ∧ (f.worn.set p _).length ≤ 64
      rw [List.length_set]; exact hw
    · show (f.worn.set p _).length = _
      rw [List.length_set]
    · exact ovw_take_lo (Nat.le_refl _) (by omega)
    · show (stepF f).2.off = false
      unfold stepF at hs ⊢
      split
      · rename_i q; rw [if_pos q] at hs; cases hs
      · exact ho
    · show ((ovw f.b (256 * p) (pageF true f.tear P)).drop (256 * p)).take 256 = _
      have := ovw_mid (b := f.b) (o := 256 * p) (l := pageF true f.tear P) (by omega)
      rw [hpf] at this
      rw [this, pageF_true, hPl]
  | false =>
    rw [if_pos rfl]
    refine ⟨5, _, rfl, ⟨b3.trans h.lo, b4.trans h.hi, (hlen _).trans (by rw [← b2]), by show 2 ≤ (stepF f).2.worn.length ∧ _; rw [b2]; exact hw⟩, by show (stepF f).2.worn.length = _; rw [b2], b5, ?_, harm, .inr ⟨rfl, ?_⟩⟩
    · exact ovw_take_lo (Nat.le_refl _) (by omega)
    · unfold stepF at hs
      split at hs
      · rename_i q; exact q.1
      · cases hs
/-- Pages are erased. -/
theorem clear_hi (first : Nat) : ∀ (n p : Nat) {f : Fl}, Two f → f.Ok → f.off = false → first + p + n ≤ f.worn.length →
    ∃ e g, clearF first n p f = (e, g) ∧ Two g ∧ g.Ok ∧ g.worn.length = f.worn.length ∧ g.tear = f.tear ∧ g.b.take (256 * (first + p)) = f.b.take (256 * (first + p)) ∧ (g.armed = true → f.armed = true) ∧
      ((e = 0 ∧ g.off = false ∧ (g.b.drop (256 * (first + p))).take (256 * n) = List.replicate (256 * n) 255) ∨ (e = 5 ∧ f.armed = true))
  | 0, p, f, h, hk, ho, hw => ⟨0, f, rfl, h, hk, rfl, rfl, rfl, id, .inl ⟨rfl, ho, by simp⟩⟩
  | n + 1, p, f, h, hk, ho, hw => by
    obtain ⟨e, g, he, h1, h2, h3, h4, h5, h6⟩ := erase_hi h ho (p := first + p) (by omega)
    have hok := (eraseF_ok hk ((first + p : Nat) : Int)).1
    rw [he] at hok
    rw [clearF, show (first : Int) + p = ((first + p : Nat) : Int) by omega, he]
    rcases h6 with ⟨rfl, h7, h8⟩ | ⟨rfl, h7⟩
    · obtain ⟨e2, g2, k0, k1, k1', k2, k3, k4, k5, k6⟩ := clear_hi first n (p + 1) h1 hok h7 (by omega)
      rw [if_neg (by simp)]
      refine ⟨e2, g2, by rw [← k0]; rfl, k1, k1', k2.trans h2, k3.trans h3, ?_, fun q => h5 (k5 q), ?_⟩
      · exact (take_eq_of k4 (by omega)).trans h4
      · rcases k6 with ⟨rfl, k7, k8⟩ | ⟨rfl, k7⟩
        · refine .inl ⟨rfl, k7, ?_⟩
          have l1 := k1.len
          have hsplit : g2.b.drop (256 * (first + p)) = (g2.b.drop (256 * (first + p))).take 256 ++ g2.b.drop (256 * (first + (p + 1))) := by
            rw [show 256 * (first + (p + 1)) = 256 * (first + p) + 256 by omega, ← List.drop_drop, List.take_append_drop]
          have h256 : (g2.b.drop (256 * (first + p))).take 256 = List.replicate 256 255 := by
            have e1 := pg_take (p := first + p) k4 (by omega)
            unfold pg at e1
            rw [e1, h8]
          rw [hsplit, h256, List.take_append, List.length_replicate, List.take_of_length_le (by rw [List.length_replicate]; omega), show 256 * (n + 1) - 256 = 256 * n by omega, k8, List.replicate_append_replicate]
          congr 1; omega
        · exact .inr ⟨rfl, h5 k7⟩
    · rw [if_pos (show (5 : Int) ≠ 0 by decide)]
      exact ⟨5, g, rfl, h1, hok, h2, h3, h4, h5, .inr ⟨rfl, h7⟩⟩
/-- Words are programmed into what was erased. -/
theorem prog_hi {f : Fl} (h : Two f) (hk : f.Ok) (ho : f.off = false) {o m : Nat} (h4 : o % 4 = 0) {d : List UInt8} (hd : d.length = 4 * m) (hl : o + 4 * m ≤ f.b.length) (ha : (f.b.drop o).take (4 * m) = List.replicate (4 * m) 255) :
    ∃ e g, progF f o d = (e, g) ∧ Two g ∧ g.Ok ∧ g.worn.length = f.worn.length ∧ g.tear = f.tear ∧ g.b.take o = f.b.take o ∧ (g.armed = true → f.armed = true) ∧
      ((e = 0 ∧ g.off = false ∧ (g.b.drop o).take (4 * m) = d) ∨ (e = 5 ∧ f.armed = true)) := by
  have hb := h.len
  have hok := (progF_ok hk o d).1
  have hp : progF f o d = wordsF m f o d := by
    have hl : lockd f o d.length = false := by
      unfold lockd
      refine decide_eq_false ?_
      rintro ⟨_, k, _, _, _, h1, h2⟩
      rw [h.hi] at h2; omega
    unfold progF
    rw [if_neg (by rw [ho]; decide), if_neg (by rw [hd]; omega), if_neg (by rw [hd]; omega), if_neg (by rw [hl]; decide), hd, Int.toNat_natCast]
    congr 1
    omega
  have hand : andB ((f.b.drop o).take (4 * m)) d = d := by rw [ha]; exact above_and (above_rep hd)
  rw [hp] at hok ⊢
  by_cases hr : f.armed = true → (m : Int) ≤ f.left
  · obtain ⟨ops, he⟩ := wordsF_run m f o d hd hl hand hr
    rw [he] at hok ⊢
    refine ⟨0, _, rfl, ⟨h.lo, h.hi, ?_, h.worn⟩, hok, rfl, rfl, ovw_take_lo (Nat.le_refl _) (by omega), id, .inl ⟨rfl, ho, ?_⟩⟩
    · show (ovw f.b o d).length = 256 * f.worn.length
      rw [ovw_len (by omega), hb]
    · have := ovw_mid (b := f.b) (o := o) (l := d) (by omega)
      rwa [hd] at this
  · obtain ⟨har, hlt⟩ := Classical.not_imp.1 hr
    obtain ⟨k, hk⟩ : ∃ k : Nat, f.left = k := ⟨f.left.toNat, by have := hk.left; omega⟩
    have hkm : k < m := by omega
    obtain ⟨ops, he⟩ := wordsF_tear k m f o d hkm hd hl hand har hk
    rw [he] at hok ⊢
    refine ⟨5, _, rfl, ⟨h.lo, h.hi, ?_, h.worn⟩, hok, rfl, rfl, ovw_take_lo (Nat.le_refl _) (by omega), fun _ => har, .inr ⟨rfl, har⟩⟩
    show (ovw f.b o _).length = 256 * f.worn.length
    rw [ovw_len (by simp [tornB, byL_len, hd]; omega), hb]
end Go.Fw
namespace Go.Fw
theorem wordF_drop {f : Fl} {o k : Nat} {w : List UInt8} (hw : w.length = 4) (ho : o + 4 ≤ k) (hk : k ≤ f.b.length) : (wordF f o w).2.b.drop k = f.b.drop k := by
  have h4 := was_len (b := f.b) (o := o) (by omega)
  unfold wordF; simp only; split
  · exact ovw_drop (by rw [tornB_len (by omega) (by simp [byL_len, hw])]; omega) (by omega)
  · exact ovw_drop (by rw [andB_len (by omega)]; omega) (by omega)
theorem wordsF_drop : ∀ (n : Nat) {f : Fl} {o k : Nat} {d : List UInt8}, d.length = 4 * n → o + 4 * n ≤ k → k ≤ f.b.length → (wordsF n f o d).2.b.drop k = f.b.drop k
  | 0, f, o, k, d, _, _, _ => rfl
  | n + 1, f, o, k, d, hd, ho, hk => by
    have h1 := wordF_drop (f := f) (o := o) (k := k) (w := d.take 4) (by simp; omega) (by omega) hk
    have hl := wordF_len (f := f) (o := o) (w := d.take 4) (by omega) (by simp; omega)
    rw [wordsF]
    split
    · rw [wordsF_drop n (by simp; omega) (by omega) (by omega), h1]
    · exact h1
theorem progF_drop {f : Fl} {o k : Nat} {d : List UInt8} (ho : o + d.length ≤ k) (hk : k ≤ f.b.length) : (progF f o d).2.b.drop k = f.b.drop k := by
  unfold progF
  split
  · rfl
  split
  · rfl
  rename_i q
  split
  · rfl
  split
  · rfl
  · simp only [Classical.not_not] at q
    exact wordsF_drop _ (by omega) (by rw [Int.toNat_natCast]; omega) hk
theorem eraseF_drop {f : Fl} {p k : Nat} (hp : 256 * p + 256 ≤ k) (hk : k ≤ f.b.length) : (eraseF f p).2.b.drop k = f.b.drop k := by
  have hov : ∀ w, (ovw f.b (256 * p) (pageF w f.tear ((f.b.drop (256 * p)).take 256))).drop k = f.b.drop k := fun w => ovw_drop (by rw [pageF_len, List.length_take]; omega) (by omega)
  unfold eraseF
  split
  · rfl
  split
  · rfl
  split
  · rfl
  · simp only [Int.toNat_natCast]
    split
    · exact hov _
    · exact hov _
theorem writeS_drop {f : Fl} (hf : f.Ok) {to : Nat} (ht : to ≤ 1) {b : List UInt8} (hb : b.length ≤ 256) (h2 : 512 ≤ f.b.length) : (writeS f to b).2.b.drop 512 = f.b.drop 512 := by
  have h0 := progF_ok hf (256 * to : Nat) [0, 0, 0, 0]
  have e0 := progF_drop (f := f) (o := 256 * to) (k := 512) (d := [0, 0, 0, 0]) (by simp; omega) h2
  have h1 := eraseF_ok h0.1 to
  have e1 := eraseF_drop (f := (progF f (256 * to : Nat) [0, 0, 0, 0]).2) (p := to) (k := 512) (by omega) (by rw [h0.2]; exact h2)
  have e2 := progF_drop (f := (eraseF (progF f (256 * to : Nat) [0, 0, 0, 0]).2 to).2) (o := 256 * to) (k := 512) (d := b) (by omega) (by rw [h1.2, h0.2]; exact h2)
  unfold writeS
  simp only
  split
  · exact e0
  split
  · exact e1.trans e0
  · exact e2.trans (e1.trans e0)
theorem encF_le (r : Rec) : (encF r).1.length ≤ 160 := by
  unfold encF; split
  · rename_i h; rw [recB_len (right_len h)]; omega
  · simp
theorem saveS_drop {f : Fl} (hf : f.Ok) (r : Rec) (h2 : 512 ≤ f.b.length) : (saveS f r).2.2.b.drop 512 = f.b.drop 512 := by
  have hp := (loadS_ok f).2
  unfold saveS
  simp only
  split
  · rfl
  split
  · rfl
  split
  · rfl
  have hto : (if (loadS f).2.2 = 15 then 0 else 1 - (loadS f).2.1) ≤ 1 := by split <;> omega
  generalize (if (loadS f).2.2 = 15 then 0 else 1 - (loadS f).2.1) = to at hto
  have he := encF_le { r with seq := (loadS f).1.seq + 1 }
  generalize encF _ = e at he
  have hw := writeS_drop hf hto (b := e.1) (by omega) h2
  split
  · exact hw
  · exact hw
end Go.Fw
