/-
  A record is saved while the power may go.
-/
import Derived.Test.YtjehncilahjmdaaR3
set_option linter.unusedSimpArgs false
set_option linter.unnecessarySimpa false
set_option linter.unusedVariables false
set_option linter.unusedSectionVars false
namespace Go.Fw
/-- A page's bytes. -/
def pg (b : List UInt8) (p : Nat) : List UInt8 := (b.drop (256 * p)).take 256
theorem pg_len {b : List UInt8} {p : Nat} (h : 512 ≤ b.length) (hp : p ≤ 1) : (pg b p).length = 256 := by simp [pg]; omega
theorem pg_ovw {b d : List UInt8} {p : Nat} (h : 512 ≤ b.length) (hp : p ≤ 1) (hd : d.length ≤ 256) : pg (ovw b (256 * p) d) p = ovw (pg b p) 0 d := by
  have h1 : (b.take (256 * p)).length = 256 * p := by rw [List.length_take]; omega
  have h2 : (ovw b (256 * p) d).drop (256 * p) = d ++ b.drop (256 * p + d.length) := by
    rw [ovw, List.append_assoc, List.drop_left' h1]
  unfold pg
  rw [h2, ovw, List.take_zero, List.nil_append, Nat.zero_add, List.take_append, List.take_of_length_le hd, List.drop_take, List.drop_drop]
theorem pg_other {b d : List UInt8} {p : Nat} (h : 512 ≤ b.length) (hp : p ≤ 1) (hd : d.length ≤ 256) : pg (ovw b (256 * p) d) (1 - p) = pg b (1 - p) := by
  unfold pg
  rcases (show p = 0 ∨ p = 1 by omega) with rfl | rfl
  · rw [ovw_drop (by omega) (by omega)]
  · simp only [Nat.sub_self, Nat.mul_zero, List.drop_zero, Nat.mul_one]
    exact ovw_take (by omega) (by omega)
/-- Flash of two pages or more, none locked. -/
structure Two (f : Fl) : Prop where
  lo : f.lo = 0
  hi : f.hi = 0
  len : f.b.length = 256 * f.worn.length
  worn : 2 ≤ f.worn.length ∧ f.worn.length ≤ 64
theorem progF_two {f : Fl} (h : Two f) (ho : f.off = false) {to m : Nat} (ht : to ≤ 1) {d : List UInt8} (hd : d.length = 4 * m) (hm : m ≤ 64) : progF f (256 * to : Nat) d = wordsF m f (256 * to) d := by
  have hl : lockd f (256 * to : Nat) d.length = false := by
    unfold lockd
    refine decide_eq_false ?_
    rintro ⟨_, k, _, _, _, h1, h2⟩
    rw [h.hi] at h2; omega
  unfold progF
  rw [if_neg (by rw [ho]; decide), if_neg (by rw [hd]; omega), if_neg (by have := h.len; have := h.worn; rw [hd]; omega), if_neg (by rw [hl]; decide), hd, Int.toNat_natCast]
  congr 1
  omega
theorem words_two {f : Fl} (h : Two f) (hok : f.Ok) (ho : f.off = false) {to m : Nat} (ht : to ≤ 1) {d : List UInt8} (hd : d.length = 4 * m) (hm : m ≤ 64) (ha : andB ((f.b.drop (256 * to)).take (4 * m)) d = d) :
    (∃ g, wordsF m f (256 * to) d = (0, g) ∧ Two g ∧ g.off = false ∧ pg g.b to = ovw (pg f.b to) 0 d ∧ pg g.b (1 - to) = pg f.b (1 - to) ∧ g.tear = f.tear ∧ (f.armed = false → g.armed = false)) ∨
    (f.armed = true ∧ ∃ g k, k < m ∧ wordsF m f (256 * to) d = (5, g) ∧ Two g ∧ pg g.b (1 - to) = pg f.b (1 - to) ∧ pg g.b to = ovw (pg f.b to) 0 (d.take (4 * k) ++ tornB (((pg f.b to).drop (4 * k)).take 4) ((d.drop (4 * k)).take 4) (byL 4 f.tear))) := by
  have hb' := h.len
  have hwn := h.worn
  have hb : 512 ≤ f.b.length := by omega
  by_cases hr : f.armed = true → (m : Int) ≤ f.left
  · obtain ⟨ops, he⟩ := wordsF_run m f (256 * to) d hd (by omega) ha hr
    refine .inl ⟨_, he, ⟨h.lo, h.hi, ?_, h.worn⟩, ho, pg_ovw hb ht (by omega), pg_other hb ht (by omega), rfl, fun q => q⟩
    show (ovw f.b (256 * to) d).length = 256 * f.worn.length
    rw [ovw_len (by omega), hb']
  · obtain ⟨har, hlt⟩ := Classical.not_imp.1 hr
    obtain ⟨k, hk⟩ : ∃ k : Nat, f.left = k := ⟨f.left.toNat, by have := hok.left; omega⟩
    have hkm : k < m := by omega
    obtain ⟨ops, he⟩ := wordsF_tear k m f (256 * to) d hkm hd (by omega) ha har hk
    have hwl : (d.take (4 * k) ++ tornB ((f.b.drop (256 * to + 4 * k)).take 4) ((d.drop (4 * k)).take 4) (byL 4 f.tear)).length = 4 * k + 4 := by
      simp [tornB, byL_len, hd]; omega
    refine .inr ⟨har, _, k, hkm, he, ⟨h.lo, h.hi, ?_, h.worn⟩, pg_other hb ht (by omega), ?_⟩
    · show (ovw f.b (256 * to) _).length = 256 * f.worn.length
      rw [ovw_len (by omega), hb']
    · rw [pg_ovw hb ht (by omega)]
      congr 3
      unfold pg
      rw [List.drop_take, List.drop_drop, List.take_take, Nat.min_eq_left (by omega)]
end Go.Fw
namespace Go.Fw
theorem pageF_true (t : Nat) (l : List UInt8) : pageF true t l = List.replicate l.length 255 := by
  refine List.ext_getElem (by simp [pageF]) fun i h1 h2 => ?_
  simp [pageF]
theorem erase_two {f : Fl} (h : Two f) (ho : f.off = false) {to : Nat} (ht : to ≤ 1) :
    (∃ g, eraseF f to = (0, g) ∧ Two g ∧ g.off = false ∧ pg g.b to = List.replicate 256 255 ∧ pg g.b (1 - to) = pg f.b (1 - to) ∧ g.tear = f.tear ∧ (f.armed = false → g.armed = false)) ∨
    (f.armed = true ∧ ∃ g, eraseF f to = (5, g) ∧ Two g ∧ pg g.b (1 - to) = pg f.b (1 - to) ∧ pg g.b to = pageF false f.tear (pg f.b to)) := by
  have hb' := h.len
  have hwn := h.worn
  have hb : 512 ≤ f.b.length := by omega
  have hpl := pg_len hb ht
  obtain ⟨b1, b2, b3, b4, b5⟩ := stepF_b f
  have he : eraseF f to = (if (stepF f).1 = false then (5, { (stepF f).2 with b := ovw f.b (256 * to) (pageF (stepF f).1 f.tear (pg f.b to)) }) else (0, { (stepF f).2 with b := ovw f.b (256 * to) (pageF (stepF f).1 f.tear (pg f.b to)), worn := f.worn.set to (IntKind.i64.wrap (f.worn.getD to 0 + 1)) })) := by
    unfold eraseF
    rw [if_neg (by rw [ho]; decide), if_neg (by have := h.worn; omega), if_neg (by rw [h.hi]; omega)]
    rfl
  have hpf : ∀ w, (pageF w f.tear (pg f.b to)).length = 256 := fun w => by rw [pageF_len, hpl]
  have hov : ∀ w, ovw (pg f.b to) 0 (pageF w f.tear (pg f.b to)) = pageF w f.tear (pg f.b to) := by
    intro w
    rw [ovw, List.take_zero, List.nil_append, Nat.zero_add, hpf, List.drop_of_length_le (by omega), List.append_nil]
  have hlen : ∀ w, (ovw f.b (256 * to) (pageF w f.tear (pg f.b to))).length = 256 * f.worn.length := fun w => by rw [ovw_len (by rw [hpf]; omega), hb']
  rw [he]
  cases hs : (stepF f).1 with
  | true =>
    left
    rw [if_neg (by decide)]
    refine ⟨_, rfl, ⟨b3.trans h.lo, b4.trans h.hi, ?_, ?_⟩, ?_, ?_, ?_, b5, ?_⟩
    · show (ovw f.b (256 * to) (pageF true f.tear (pg f.b to))).length = 256 * (f.worn.set to _).length
      rw [List.length_set, hlen]
    · show 2 ≤ (f.worn.set to _).length ∧ (f.worn.set to _).length ≤ 64
      rw [List.length_set]; exact h.worn
    · show (stepF f).2.off = false
      unfold stepF at hs ⊢
      split
      · rename_i q; rw [if_pos q] at hs; cases hs
      · exact ho
    · show pg (ovw f.b (256 * to) (pageF true f.tear (pg f.b to))) to = _
      rw [pg_ovw hb ht (by rw [hpf]; omega), hov, pageF_true, hpl]
    · show pg (ovw f.b (256 * to) (pageF true f.tear (pg f.b to))) (1 - to) = _
      rw [pg_other hb ht (by rw [hpf]; omega)]
    · intro ha
      show (stepF f).2.armed = false
      unfold stepF
      rw [if_neg (by rw [ha]; simp)]
      exact ha
  | false =>
    right
    rw [if_pos rfl]
    refine ⟨?_, _, rfl, ⟨b3.trans h.lo, b4.trans h.hi, (hlen _).trans (by rw [← b2]), by show 2 ≤ (stepF f).2.worn.length ∧ _; rw [b2]; exact h.worn⟩, ?_, ?_⟩
    · unfold stepF at hs
      split at hs
      · rename_i q; exact q.1
      · cases hs
    · show pg (ovw f.b (256 * to) (pageF false f.tear (pg f.b to))) (1 - to) = _
      rw [pg_other hb ht (by rw [hpf]; omega)]
    · show pg (ovw f.b (256 * to) (pageF false f.tear (pg f.b to))) to = _
      rw [pg_ovw hb ht (by rw [hpf]; omega), hov]
theorem and_zero4 {l : List UInt8} (h : l.length = 4) : andB l [0, 0, 0, 0] = [0, 0, 0, 0] := by
  obtain ⟨a, b, c, d, rfl⟩ : ∃ a b c d, l = [a, b, c, d] := by
    match l, h with
    | [a, b, c, d], _ => exact ⟨a, b, c, d, rfl⟩
  simp [andB]
/-- A record is written, or the power goes. -/
theorem writeS_two {f : Fl} (h : Two f) (hok : f.Ok) (ho : f.off = false) {to : Nat} (ht : to ≤ 1) {c : List UInt8} (hc : c.length = 160) :
    ∃ e g, writeS f to c = (e, g) ∧ Two g ∧ pg g.b (1 - to) = pg f.b (1 - to) ∧
      ((e = 0 ∧ pg g.b to = ovw (List.replicate 256 255) 0 c ∧ g.off = false ∧ (f.armed = false → g.armed = false)) ∨
       (e = 5 ∧ f.armed = true ∧ (pg g.b to = zeroT f.tear (pg f.b to) ∨ pg g.b to = eraseT f.tear (pg f.b to) ∨ ∃ k, k < 40 ∧ pg g.b to = progT k f.tear c))) := by
  have hb' := h.len
  have hwn := h.worn
  have hb : 512 ≤ f.b.length := by omega
  have hz4 : ((f.b.drop (256 * to)).take 4).length = 4 := by simp; omega
  have hp0 := progF_two h ho ht (d := [0, 0, 0, 0]) (m := 1) rfl (by decide)
  have ok1 := (progF_ok hok (256 * to : Nat) [0, 0, 0, 0]).1
  rcases words_two h hok ho ht (d := [0, 0, 0, 0]) (m := 1) rfl (by decide) (and_zero4 hz4) with ⟨g1, e1, t1, o1, p1, q1, r1, a1⟩ | ⟨ha, g1, k, hk, e1, t1, q1, p1⟩
  · rw [e1] at hp0
    rw [hp0] at ok1
    have ok2 := (eraseF_ok ok1 to).1
    rcases erase_two t1 o1 ht with ⟨g2, e2, t2, o2, p2, q2, r2, a2⟩ | ⟨ha, g2, e2, t2, q2, p2⟩
    · rw [e2] at ok2
      have hand : andB ((g2.b.drop (256 * to)).take (4 * 40)) c = c := by
        have : (g2.b.drop (256 * to)).take (4 * 40) = List.replicate 160 255 := by
          have := congrArg (List.take 160) p2
          unfold pg at this
          rw [List.take_take, List.take_replicate] at this
          exact this
        rw [this]
        exact above_and (above_rep hc)
      have hp3 := progF_two t2 o2 ht (d := c) (m := 40) hc (by decide)
      rcases words_two t2 ok2 o2 ht (d := c) (m := 40) hc (by decide) hand with ⟨g3, e3, t3, o3, p3, q3, r3, a3⟩ | ⟨ha, g3, k, hk, e3, t3, q3, p3⟩
      · refine ⟨0, g3, ?_, t3, q3.trans (q2.trans q1), .inl ⟨rfl, by rw [p3, p2], o3, fun q => a3 (a2 (a1 q))⟩⟩
        unfold writeS
        simp only [hp0, e2, hp3, e3, ne_eq, not_true_eq_false, if_false]
      · refine ⟨5, g3, ?_, t3, q3.trans (q2.trans q1), .inr ⟨rfl, ?_, .inr (.inr ⟨k, hk, ?_⟩)⟩⟩
        · unfold writeS
          simp only [hp0, e2, hp3, e3, ne_eq, not_true_eq_false, if_false]
        · cases hx : f.armed with
          | true => rfl
          | false => rw [a2 (a1 hx)] at ha; cases ha
        · rw [p3, p2, r2, r1, progT, List.drop_replicate, List.take_replicate, show min 4 (256 - 4 * k) = 4 by omega]
    · refine ⟨5, g2, ?_, t2, q2.trans q1, .inr ⟨rfl, ?_, .inr (.inl ?_)⟩⟩
      · unfold writeS
        simp only [hp0, e2, ne_eq, not_true_eq_false, if_false]
        rfl
      · cases hx : f.armed with
        | true => rfl
        | false => rw [a1 hx] at ha; cases ha
      · rw [p2, p1, r1]; rfl
  · refine ⟨5, g1, ?_, t1, q1, .inr ⟨rfl, ha, .inl ?_⟩⟩
    · unfold writeS
      rw [e1] at hp0
      simp only [hp0]
      rfl
    · obtain rfl : k = 0 := by omega
      rw [p1]; rfl
end Go.Fw
