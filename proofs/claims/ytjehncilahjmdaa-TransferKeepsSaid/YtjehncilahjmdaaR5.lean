/-
  Records that are saved while the power goes, one behind the other.
-/
import Derived.Test.YtjehncilahjmdaaR4
set_option linter.unusedSimpArgs false
set_option linter.unnecessarySimpa false
set_option linter.unusedVariables false
set_option linter.unusedSectionVars false
namespace Go.Fw
theorem at4_mid {x y : List UInt8} {k v : Nat} (hx : x.length = k) (hv : v < 2 ^ 32) : at4 (x ++ (byL 4 v ++ y)) k = v := by
  unfold at4
  rw [List.drop_left' hx, List.take_left' (byL_len 4 v), byN_byL]
  exact Nat.mod_eq_of_lt hv
theorem encF_right {r : Rec} (h : r.right = true) : encF r = (recB r, 0) := if_pos h
theorem right_len {r : Rec} (h : r.right = true) : r.init.length ≤ 128 := by
  simp only [Rec.right, decide_eq_true_eq] at h; exact h.2.2.2.1
theorem recB_split (r : Rec) : recB r = byL 4 markN ++ (byL 4 r.seq ++ (byL 4 r.floor ++ (byL 4 r.bytes ++ (byL 4 r.sum ++ ([r.phase, UInt8.ofNat r.init.length, 0, 0] ++ (byL 4 r.done ++ (r.init ++ (List.replicate (128 - r.init.length) 0 ++ byL 4 (recSum (recBody r)))))))))) := by
  simp only [recB, recBody, recHead, List.append_assoc]
theorem recB_of (r : Rec) (hr : r.Ok) (h : r.right = true) : recOf (recB r) = r := by
  have hl := right_len h
  obtain ⟨tl, htl⟩ : ∃ tl, tl = List.replicate (128 - r.init.length) 0 ++ byL 4 (recSum (recBody r)) := ⟨_, rfl⟩
  have hs := recB_split r
  rw [← htl] at hs
  have e4 : at4 (recB r) 4 = r.seq := by rw [hs]; exact at4_mid (byL_len 4 _) hr.seq
  have e8 : at4 (recB r) 8 = r.floor := by
    rw [hs, ← List.append_assoc]; exact at4_mid (by simp [byL_len]) hr.floor
  have e12 : at4 (recB r) 12 = r.bytes := by
    rw [hs, ← List.append_assoc, ← List.append_assoc]; exact at4_mid (by simp [byL_len]) hr.bytes
  have e16 : at4 (recB r) 16 = r.sum := by
    rw [hs, ← List.append_assoc, ← List.append_assoc, ← List.append_assoc]; exact at4_mid (by simp [byL_len]) hr.sum
  have e24 : at4 (recB r) 24 = r.done := by
    rw [hs, ← List.append_assoc, ← List.append_assoc, ← List.append_assoc, ← List.append_assoc, ← List.append_assoc]; exact at4_mid (by simp [byL_len]) hr.done
  obtain ⟨hd, hhd⟩ : ∃ hd, hd = byL 4 markN ++ byL 4 r.seq ++ byL 4 r.floor ++ byL 4 r.bytes ++ byL 4 r.sum := ⟨_, rfl⟩
  have hhl : hd.length = 20 := by rw [hhd]; simp [byL_len]
  have hs2 : recB r = hd ++ ([r.phase, UInt8.ofNat r.init.length, 0, 0] ++ (byL 4 r.done ++ (r.init ++ tl))) := by rw [hs, hhd]; simp only [List.append_assoc]
  have e20 : (recB r).getD 20 0 = r.phase := by
    rw [hs2, List.getD_eq_getElem?_getD, List.getElem?_append_right (by omega), hhl]; rfl
  have e21 : (recB r).getD 21 0 = UInt8.ofNat r.init.length := by
    rw [hs2, List.getD_eq_getElem?_getD, List.getElem?_append_right (by omega), hhl]; rfl
  have e28 : (recB r).drop 28 = r.init ++ tl := by
    rw [hs2, ← List.append_assoc, ← List.append_assoc, List.drop_left' (by simp [hhl, byL_len])]
  have en : (UInt8.ofNat r.init.length).toNat = r.init.length := by rw [UInt8.toNat_ofNat']; exact Nat.mod_eq_of_lt (by omega)
  unfold recOf
  rw [e4, e8, e12, e16, e20, e24, e21, e28, en, List.take_left' rfl]
theorem recB_head (r : Rec) : (recB r).take 4 = byL 4 markN := by rw [recB_split, List.take_left' (byL_len 4 _)]
theorem recB_sum {r : Rec} (h : r.right = true) : at4 (recB r) 156 = recSum ((recB r).take 156) := by
  have hl := recBody_len (right_len h)
  have : recB r = recBody r ++ (byL 4 (recSum (recBody r)) ++ []) := by rw [List.append_nil]; rfl
  rw [this, at4_mid hl (recSum_lt _), List.take_left' hl]
theorem parse_recB {r : Rec} (hr : r.Ok) (h : r.right = true) : parseR (recB r) = (r, 0) := by
  have h1 := recB_len (right_len h)
  have h2 : at4 (recB r) 0 = markN := by
    unfold at4
    rw [List.drop_zero, recB_head, byN_byL]; rfl
  have h3 := recB_of r hr h
  have h4 : ¬ 128 < ((recB r).getD 21 0).toNat := by
    have := congrArg (fun x : Rec => x.init.length) h3
    have hl := right_len h
    simp only [recOf, List.length_take, List.length_drop, h1] at this
    omega
  unfold parseR
  rw [if_neg (not_not_intro ⟨h1, h2⟩), if_neg (not_not_intro (recB_sum h).symm), if_neg h4, h3, encF_right h, if_pos rfl]
theorem rdF_two {f : Fl} (h : Two f) (ho : f.off = false) {p : Nat} (hp : p ≤ 1) : rdF f p = parseR ((pg f.b p).take 160) := by
  have hr : readF f (256 * p : Nat) 160 = ((f.b.drop (256 * p)).take 160, 0) := by
    unfold readF
    rw [if_neg (by rw [ho]; decide), if_neg (by have := h.len; have := h.worn; omega)]
    rfl
  unfold rdF
  rw [hr]
  congr 1
  unfold pg
  rw [List.take_take]
  rfl
/-- The newest record is told. -/
theorem load_two {f : Fl} (h : Two f) (ho : f.off = false) {p t n : Nat} (hp : p ≤ 1) {r : Rec} (h1 : parseR ((pg f.b p).take 160) = (r, 0)) (h2 : okPg t n r.seq (pg f.b (1 - p))) : loadS f = (r, p, 0) := by
  have e1 := rdF_two h ho hp
  have e2 := rdF_two h ho (show 1 - p ≤ 1 by omega)
  rw [h1] at e1
  have h3 := okPg_read h2
  rw [← e2] at h3
  unfold loadS
  rw [if_neg (by have := h.len; have := h.worn; omega), if_neg (by rw [ho]; decide)]
  have hn : newestS f = some (r, p) := by
    unfold newestS
    rcases (show p = 0 ∨ p = 1 by omega) with rfl | rfl
    · rw [e1, if_pos rfl, if_neg]
      rintro ⟨q1, q2⟩
      exact absurd q2 (Nat.not_lt.2 (Nat.le_of_lt (h3 q1)))
    · by_cases q : (rdF f 0).2 = 0
      · rw [if_pos q, e1, if_pos ⟨rfl, h3 q⟩]
      · rw [if_neg q, e1, if_pos rfl]
  rw [hn]
/-- What holds before act n: the last record is told. -/
structure Tn (t n : Nat) (f : Fl) (last : Rec) : Prop where
  two : Two f
  ok : f.Ok
  off : f.off = false
  armed : f.armed = false
  seq : last.seq ≤ n + 3
  pages : ∃ p, p ≤ 1 ∧ parseR ((pg f.b p).take 160) = (last, 0) ∧ okPg t n last.seq (pg f.b (1 - p))
theorem Tn.load {t n : Nat} {f : Fl} {last : Rec} (h : Tn t n f last) : ∃ p, loadS f = (last, p, 0) := by
  obtain ⟨p, hp, h1, h2⟩ := h.pages
  exact ⟨p, load_two h.two h.off hp h1 h2⟩
theorem Two.power {f : Fl} (h : Two f) : Two (powerF f) := ⟨h.lo, h.hi, h.len, h.worn⟩
theorem Tn.stay {t n p : Nat} {f g : Fl} {last : Rec} (hp : p ≤ 1) (hs : last.seq ≤ n + 3) (h1 : parseR ((pg f.b p).take 160) = (last, 0)) (hg : Two g) (hok : g.Ok) (hb : pg g.b p = pg f.b p) (h2 : okPg t (n + 1) last.seq (pg g.b (1 - p))) : Tn t (n + 1) (powerF g) last :=
  ⟨hg.power, powerF_ok hok, rfl, rfl, by omega, p, hp, by show parseR ((pg g.b p).take 160) = _; rw [hb, h1], h2⟩
theorem Tn.swap {t n p : Nat} {f g : Fl} {last w : Rec} (hp : p ≤ 1) (hs : last.seq ≤ n + 3) (hw : w.seq = last.seq + 1) (h1 : parseR ((pg f.b p).take 160) = (last, 0)) (hg : Two g) (hok : g.Ok) (hb : pg g.b p = pg f.b p) (h2 : parseR ((pg g.b (1 - p)).take 160) = (w, 0)) : Tn t (n + 1) (powerF g) w := by
  refine ⟨hg.power, powerF_ok hok, rfl, rfl, by omega, 1 - p, by omega, h2, ?_⟩
  show okPg t (n + 1) w.seq (pg g.b (1 - (1 - p)))
  rw [show 1 - (1 - p) = p by omega, hb]
  have hl : (pg f.b p).length = 256 := by rw [← hb]; exact pg_len (by have := hg.len; have := hg.worn; omega) hp
  refine okPg_rec hl (fun _ => by rw [h1, hw]; exact Nat.lt_succ_self _) ?_
  exact (parse_mark (by rw [h1])).2
/-- The next act, in any flash of the same two pages: the power may go. -/
theorem Tn.stepG {t n : Nat} {f g : Fl} {last r : Rec} (h : Tn t n f last) (hr : r.Ok) (gt : Two g) (go : g.off = false) (gk : g.Ok) (gb : ∀ p, p ≤ 1 → pg g.b p = pg f.b p) (ga : g.armed = true → n < 20 ∧ g.tear = tkN t n) (ht : t < 2 ^ 32) (hlim : n < 2 ^ 20) :
    (r.right = false → saveS g r = (rec0, 1, g) ∧ Tn t (n + 1) (powerF g) last) ∧
    (r.right = true → ∃ got, (∃ p, loadS (powerF (saveS g r).2.2) = (got, p, 0)) ∧ Tn t (n + 1) (powerF (saveS g r).2.2) got ∧
      (((saveS g r).2.1 = 0 ∧ (saveS g r).1 = { r with seq := last.seq + 1 } ∧ got = { r with seq := last.seq + 1 }) ∨ ((saveS g r).2.1 = 5 ∧ g.armed = true ∧ (got = last ∨ got = { r with seq := last.seq + 1 })))) := by
  obtain ⟨p, hp, h1, h2⟩ := h.pages
  have hpl : pg g.b p = pg f.b p := gb p hp
  have hpo : pg g.b (1 - p) = pg f.b (1 - p) := gb (1 - p) (by omega)
  have hload : loadS g = (last, p, 0) := load_two gt go hp (by rw [hpl]; exact h1) (by rw [hpo]; exact h2)
  have hsq := h.seq
  obtain ⟨w, hw⟩ : ∃ w : Rec, w = { r with seq := last.seq + 1 } := ⟨_, rfl⟩
  have hwr : w.right = r.right := by rw [hw]; rfl
  have hwk : w.Ok := by rw [hw]; exact ⟨by show last.seq + 1 < 2 ^ 32; omega, hr.floor, hr.bytes, hr.sum, hr.done, hr.init⟩
  have hws : w.seq = last.seq + 1 := by rw [hw]
  have hsave : saveS g r = if (encF w).2 ≠ 0 then (rec0, (encF w).2, g) else if (writeS g (1 - p) (encF w).1).1 ≠ 0 then (rec0, (writeS g (1 - p) (encF w).1).1, (writeS g (1 - p) (encF w).1).2) else (w, 0, (writeS g (1 - p) (encF w).1).2) := by
    unfold saveS
    rw [hload]
    simp only
    rw [if_neg (by simp), if_neg (by omega), ← hw, if_neg (show ¬ (0 : Int) = 15 by decide)]
  rw [← hw]
  refine ⟨fun hf => ?_, fun hf => ?_⟩
  · have he : encF w = ([], 1) := if_neg (by rw [hwr, hf]; decide)
    rw [hsave, he]
    exact ⟨rfl, Tn.stay hp hsq h1 gt gk hpl (by rw [hpo]; exact okPg_mono h2 (by omega) (Nat.le_refl _))⟩
  · have hwt : w.right = true := hwr.trans hf
    have hc := recB_len (right_len hwt)
    have hwok := writeS_ok gk (1 - p) (recB w)
    obtain ⟨e, g2, e1, t2, q2, hcase⟩ := writeS_two gt gk go (show 1 - p ≤ 1 by omega) hc
    rw [encF_right hwt] at hsave
    simp only at hsave
    rw [if_neg (by simp), e1] at hsave
    simp only at hsave
    rw [e1] at hwok
    rw [show 1 - (1 - p) = p by omega, hpl] at q2
    have hfull : (pg g2.b (1 - p)).take 160 = recB w → Tn t (n + 1) (powerF g2) w := fun hx => Tn.swap hp hsq hws h1 t2 hwok.1 q2 (by rw [hx]; exact parse_recB hwk hwt)
    have hstay : okPg t (n + 1) last.seq (pg g2.b (1 - p)) → Tn t (n + 1) (powerF g2) last := fun hx => Tn.stay hp hsq h1 t2 hwok.1 q2 hx
    rcases hcase with ⟨rfl, hx, _, _⟩ | ⟨rfl, ha, hx⟩
    · rw [if_neg (by simp)] at hsave
      have hT := hfull (by rw [hx, ovw, List.take_zero, List.nil_append, List.take_left' hc])
      rw [hsave]
      exact ⟨w, hT.load, hT, .inl ⟨rfl, rfl, rfl⟩⟩
    · rw [if_pos (show (5 : Int) ≠ 0 by decide)] at hsave
      rw [hsave]
      obtain ⟨hn, hta⟩ := ga ha
      rw [hta, hpo] at hx
      rcases hx with hx | hx | ⟨k, hk, hx⟩
      · have hT := hstay (by rw [hx]; exact okPg_zero hn h2)
        exact ⟨last, hT.load, hT, .inr ⟨rfl, ha, .inl rfl⟩⟩
      · have hT := hstay (by rw [hx]; exact okPg_erase h2.1)
        exact ⟨last, hT.load, hT, .inr ⟨rfl, ha, .inl rfl⟩⟩
      · rcases okPg_prog (t := tkN t n) (u := t) (n := n + 1) (s := last.seq) hk hc (recB_head w) (recB_sum hwt) with hy | hy
        · have hT := hfull (by rw [hx]; exact hy)
          exact ⟨w, hT.load, hT, .inr ⟨rfl, ha, .inr rfl⟩⟩
        · have hT := hstay (by rw [hx]; exact hy)
          exact ⟨last, hT.load, hT, .inr ⟨rfl, ha, .inl rfl⟩⟩
/-- The next act: the power may go. -/
theorem Tn.step {t n : Nat} {f g : Fl} {last r : Rec} (h : Tn t n f last) (hn : n < 20) (hr : r.Ok) (hg : g = f ∨ ∃ k : Int, 0 ≤ k ∧ k < 2 ^ 63 ∧ g = (failF f k (tkN t n)).2) (ht : t < 2 ^ 32) :
    (r.right = false → saveS g r = (rec0, 1, g) ∧ Tn t (n + 1) (powerF g) last) ∧
    (r.right = true → ∃ got, (∃ p, loadS (powerF (saveS g r).2.2) = (got, p, 0)) ∧ Tn t (n + 1) (powerF (saveS g r).2.2) got ∧
      (((saveS g r).2.1 = 0 ∧ (saveS g r).1 = { r with seq := last.seq + 1 } ∧ got = { r with seq := last.seq + 1 }) ∨ ((saveS g r).2.1 = 5 ∧ (got = last ∨ got = { r with seq := last.seq + 1 })))) := by
  have hk32 : tkN t n < 2 ^ 32 := Nat.xor_lt_two_pow ht (Nat.mod_lt _ (by decide))
  obtain ⟨gt, go, gk, gb, ga⟩ : Two g ∧ g.off = false ∧ g.Ok ∧ g.b = f.b ∧ (g.armed = true → g.tear = tkN t n) := by
    rcases hg with rfl | ⟨k, hk0, hk, rfl⟩
    · exact ⟨h.two, h.off, h.ok, rfl, fun q => by rw [h.armed] at q; cases q⟩
    · have hF : failF f k (tkN t n) = (0, { f with armed := true, left := k, tear := tkN t n }) := if_neg (by omega)
      have ok := failF_ok h.ok (n := k) (t := tkN t n) hk hk32
      rw [hF] at ok ⊢
      exact ⟨⟨h.two.lo, h.two.hi, h.two.len, h.two.worn⟩, h.off, ok, rfl, fun _ => rfl⟩
  have hG := h.stepG hr gt go gk (fun p _ => by rw [gb]) (fun q => ⟨hn, ga q⟩) ht (by omega)
  refine ⟨hG.1, fun q => ?_⟩
  obtain ⟨got, h1, h2, h3⟩ := hG.2 q
  exact ⟨got, h1, h2, h3.imp id fun z => ⟨z.1, z.2.2⟩⟩
end Go.Fw
