/-
  An image is kept, while the power may go.
-/
import Derived.Test.YtjehncilahjmdaaR6
set_option linter.unusedSimpArgs false
set_option linter.unnecessarySimpa false
set_option linter.unusedVariables false
set_option linter.unusedSectionVars false
namespace Go.Fw
theorem power_on {f : Fl} (h1 : f.off = false) (h2 : f.armed = false) : powerF f = f := by
  obtain ⟨b, lo, hi, ops, armed, left, tear, off, worn⟩ := f
  simp only at h1 h2
  subst h1 h2
  rfl
theorem ff_bad : (parseR ((List.replicate 256 255).take 160)).2 ≠ 0 := no_rec (.inl (by decide))
theorem ff_ok (t n s : Nat) : okPg t n s (List.replicate 256 255) := ⟨List.length_replicate, .inl (not_harm (no_rec (.inl (by decide))))⟩
theorem writeS_worn {f g : Fl} {to : Nat} {c : List UInt8} {e : Int} (h : writeS f to c = (e, g)) : g.worn.length = f.worn.length := by
  have hp : ∀ (f : Fl) (a : Int) (d : List UInt8), (progF f a d).2.worn = f.worn := by
    intro f a d
    have hw : ∀ (n : Nat) (f : Fl) (o : Nat) (d : List UInt8), (wordsF n f o d).2.worn = f.worn := by
      intro n
      induction n with
      | zero => intro f o d; rfl
      | succ n ih =>
        intro f o d
        have h1 := (wordF_same f o (d.take 4)).1
        rw [wordsF]; split
        · rw [ih, h1]
        · exact h1
    unfold progF
    split
    · rfl
    split
    · rfl
    split
    · rfl
    split
    · rfl
    · exact hw _ _ _ _
  have he : ∀ (f : Fl) (p : Int), (eraseF f p).2.worn.length = f.worn.length := by
    intro f p
    have b2 := (stepF_b f).2.1
    unfold eraseF
    split
    · rfl
    split
    · rfl
    split
    · rfl
    · simp only; split
      · simp only [b2]
      · simp only [List.length_set]
  unfold writeS at h
  simp only at h
  split at h
  · have := congrArg (fun x => x.2.worn.length) h
    simp only at this
    rw [← this, hp]
  split at h
  · have := congrArg (fun x => x.2.worn.length) h
    simp only at this
    rw [← this, he, hp]
  · have := congrArg (fun x => x.2.worn.length) h
    simp only at this
    rw [← this, hp, he, hp]
theorem saveS_worn (f : Fl) (r : Rec) : (saveS f r).2.2.worn.length = f.worn.length := by
  unfold saveS
  simp only
  split
  · rfl
  split
  · rfl
  split
  · rfl
  generalize (if (loadS f).2.2 = 15 then 0 else 1 - (loadS f).2.1) = to
  generalize encF _ = e
  obtain ⟨x, g, h⟩ : ∃ x g, writeS f to e.1 = (x, g) := ⟨_, _, rfl⟩
  have := writeS_worn h
  rw [h]
  split
  · exact this
  · exact this
/-- The first record. -/
theorem first_save {f : Fl} (h : Two f) (hk : f.Ok) (ho : f.off = false) (ha : f.armed = false) (h0 : pg f.b 0 = List.replicate 256 255) (h1 : pg f.b 1 = List.replicate 256 255) {r : Rec} (hr : r.Ok) (hrr : r.right = true) (t n : Nat) :
    ∃ g, saveS f r = ({ r with seq := 1 }, 0, g) ∧ Tn t n g { r with seq := 1 } := by
  have hln := h.len
  have hwn := h.worn
  have q0 : (rdF f 0).2 ≠ 0 := by rw [rdF_two h ho (by decide), h0]; exact ff_bad
  have q1 : (rdF f 1).2 ≠ 0 := by rw [rdF_two h ho (by decide), h1]; exact ff_bad
  have hload : loadS f = (rec0, 0, 15) := by
    unfold loadS
    rw [if_neg (by omega), if_neg (by rw [ho]; decide)]
    have : newestS f = none := by
      unfold newestS
      rw [if_neg q0, if_neg q1]
    rw [this]
  obtain ⟨w, hw⟩ : ∃ w : Rec, w = { r with seq := 1 } := ⟨_, rfl⟩
  have hwr : w.right = true := by rw [hw]; exact hrr
  have hwk : w.Ok := by rw [hw]; exact ⟨by show 1 < 2 ^ 32; decide, hr.floor, hr.bytes, hr.sum, hr.done, hr.init⟩
  have hc := recB_len (right_len hwr)
  obtain ⟨e, g, e1, t2, q2, hcase⟩ := writeS_two h hk ho (show 0 ≤ 1 by decide) hc
  have hgk := writeS_ok hk 0 (recB w)
  rw [e1] at hgk
  rcases hcase with ⟨rfl, hx, o3, a3⟩ | ⟨_, hb, _⟩
  · have hsave : saveS f r = (w, 0, g) := by
      unfold saveS
      rw [hload]
      simp only
      rw [if_neg (by simp), if_neg (by simp)]
      rw [show ({ r with seq := rec0.seq + 1 } : Rec) = w from hw.symm, encF_right hwr]
      simp only [if_true]
      rw [if_neg (by simp), e1]
      simp only
      rw [if_neg (by simp)]
    rw [← hw]
    refine ⟨g, hsave, t2, hgk.1, o3, a3 ha, by rw [hw]; show 1 ≤ n + 3; omega, 0, by decide, ?_, ?_⟩
    · rw [hx, ovw, List.take_zero, List.nil_append, List.take_left' hc]
      exact parse_recB hwk hwr
    · rw [q2, h1]; exact ff_ok _ _ _
  · rw [ha] at hb; cases hb
/-- A record is saved, and the power does not go. -/
theorem Tn.calm {t n : Nat} {f g : Fl} {last r : Rec} (h : Tn t n f last) (hr : r.Ok) (hrr : r.right = true) (gt : Two g) (go : g.off = false) (gk : g.Ok) (gb : ∀ p, p ≤ 1 → pg g.b p = pg f.b p) (ga : g.armed = false) (hsq2 : last.seq + 1 ≤ n + 3) (hlim : n < 2 ^ 20) :
    ∃ g', saveS g r = ({ r with seq := last.seq + 1 }, 0, g') ∧ Tn t n g' { r with seq := last.seq + 1 } := by
  obtain ⟨p, hp, h1, h2⟩ := h.pages
  have hpl : pg g.b p = pg f.b p := gb p hp
  have hpo : pg g.b (1 - p) = pg f.b (1 - p) := gb (1 - p) (by omega)
  have hload : loadS g = (last, p, 0) := load_two gt go hp (by rw [hpl]; exact h1) (by rw [hpo]; exact h2)
  obtain ⟨w, hw⟩ : ∃ w : Rec, w = { r with seq := last.seq + 1 } := ⟨_, rfl⟩
  have hwr : w.right = true := by rw [hw]; exact hrr
  have hwk : w.Ok := by rw [hw]; exact ⟨by show last.seq + 1 < 2 ^ 32; omega, hr.floor, hr.bytes, hr.sum, hr.done, hr.init⟩
  have hc := recB_len (right_len hwr)
  obtain ⟨e, g2, e1, t2, q2, hcase⟩ := writeS_two gt gk go (show 1 - p ≤ 1 by omega) hc
  have hgk := writeS_ok gk (1 - p) (recB w)
  rw [e1] at hgk
  rw [show 1 - (1 - p) = p by omega, hpl] at q2
  rcases hcase with ⟨rfl, hx, o3, a3⟩ | ⟨_, hb, _⟩
  · have hsave : saveS g r = (w, 0, g2) := by
      unfold saveS
      rw [hload]
      simp only
      rw [if_neg (by simp), if_neg (by omega), ← hw, if_neg (show ¬ (0 : Int) = 15 by decide), encF_right hwr]
      simp only
      rw [if_neg (by simp), e1]
      simp only
      rw [if_neg (by simp)]
    rw [← hw]
    refine ⟨g2, hsave, t2, hgk.1, o3, a3 ga, by rw [hw]; exact hsq2, 1 - p, by omega, ?_, ?_⟩
    · rw [hx, ovw, List.take_zero, List.nil_append, List.take_left' hc]
      exact parse_recB hwk hwr
    · rw [show 1 - (1 - p) = p by omega, q2]
      have hl : (pg f.b p).length = 256 := by rw [← hpl]; exact pg_len (by have := gt.len; have := gt.worn; omega) hp
      refine okPg_rec hl (fun _ => by rw [h1, hw]; exact Nat.lt_succ_self _) ?_
      exact (parse_mark (by rw [h1])).2
  · rw [ga] at hb; cases hb
end Go.Fw
