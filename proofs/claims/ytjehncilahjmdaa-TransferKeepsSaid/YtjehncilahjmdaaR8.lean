/-
  A piece of an image is kept, or the power goes.
-/
import Derived.Test.YtjehncilahjmdaaR7
set_option linter.unusedSimpArgs false
set_option linter.unnecessarySimpa false
set_option linter.unusedVariables false
set_option linter.unusedSectionVars false
namespace Go.Fw
theorem Tn.mono {t n m : Nat} {f : Fl} {last : Rec} (h : Tn t n f last) (hm : n ≤ m) : Tn t m f last := by
  obtain ⟨p, hp, h1, h2⟩ := h.pages
  exact ⟨h.two, h.ok, h.off, h.armed, by have := h.seq; omega, p, hp, h1, okPg_mono h2 hm (Nat.le_refl _)⟩
def wantR (r : Rec) (k : Nat) : Rec := { r with seq := r.seq + 1, phase := 1, done := r.done + k }
theorem drop_take_eq {a b : List UInt8} {k m : Nat} (h : a.take (k + m) = b.take (k + m)) : (a.drop k).take m = (b.drop k).take m := by
  have := congrArg (List.drop k) h
  rwa [List.drop_take, List.drop_take, Nat.add_sub_cancel_left] at this
theorem drop_of_512 {a b : List UInt8} {k : Nat} (h : a.drop 512 = b.drop 512) (hk : 512 ≤ k) : a.drop k = b.drop k := by
  have := congrArg (List.drop (k - 512)) h
  rwa [List.drop_drop, List.drop_drop, show 512 + (k - 512) = k by omega] at this
theorem put_hi {t n : Nat} {f0 f : Fl} {r : Rec} (hT : Tn t n f0 r) (hr : r.Ok) (h2 : Two f) (hk : f.Ok) (ho : f.off = false) (hb : f.b = f0.b) (hw : 34 ≤ f.worn.length) (ga : f.armed = true → n < 20 ∧ f.tear = tkN t n) (ht : t < 2 ^ 32) (hlim : n < 2 ^ 10) (hph : r.phase = 1) (hd : r.done % 256 = 0) (hrr : r.right = true) {p : List UInt8} (hp : r.done + p.length ≤ 4096) :
    ∃ e g r' got, trPut (f, r) p = (e, g, r') ∧ Tn t (n + 1) (powerF g) got ∧ g.Ok ∧ g.worn.length = f.worn.length ∧ (g.b.drop 4608).take r.done = (f.b.drop 4608).take r.done ∧ (f.armed = false → e = 0 ∧ powerF g = g) ∧
      ((e = 0 ∧ got = wantR r p.length ∧ r' = wantR r p.length ∧ (g.b.drop (4608 + r.done)).take p.length = p) ∨
       (e = 5 ∧ f.armed = true ∧ (got = r ∨ (got = wantR r p.length ∧ (g.b.drop (4608 + r.done)).take p.length = p)))) := by
  have hlen := h2.len
  have hwn := h2.worn
  obtain ⟨u, hu⟩ : ∃ u, u = r.done / 256 := ⟨_, rfl⟩
  obtain ⟨v, hv⟩ : ∃ v, v = (r.done + p.length + 255) / 256 := ⟨_, rfl⟩
  have hbr : bkR f 18 = true := decide_eq_true ⟨by decide, by omega⟩
  have hcl : bkClear f 18 (u : Nat) (v : Nat) = clearF (18 : Nat) (v - u) (u : Nat) f := by
    unfold bkClear
    rw [if_neg (by rw [hbr]; simp; omega)]
    congr 1
    omega
  obtain ⟨e1, g1, he1, a1, a2, a3, a4, a5, a6, a7⟩ := clear_hi 18 (v - u) u h2 hk ho (by omega)
  have hstay : ∀ (g : Fl), Two g → g.Ok → g.worn.length = f.worn.length → g.b.take (4608 + r.done) = f.b.take (4608 + r.done) → Tn t (n + 1) (powerF g) r := by
    intro g t2 gk gw gb
    obtain ⟨q, hq, q1, q2⟩ := hT.pages
    refine Tn.stay hq hT.seq q1 t2 gk ?_ ?_
    · rw [← hb]; exact pg_take gb (by omega)
    · have : pg g.b (1 - q) = pg f0.b (1 - q) := by rw [← hb]; exact pg_take gb (by omega)
      rw [this]
      exact okPg_mono q2 (by omega) (Nat.le_refl _)
  have hunf : trPut (f, r) p = (let c := clearF (18 : Nat) (v - u) (u : Nat) f
      if c.1 ≠ 0 then (c.1, c.2, r) else
      let w := bkWrite c.2 18 (r.done : Nat) p
      if w.1 ≠ 0 then (w.1, w.2, r) else trSave (w.2, r) 1 (r.done + p.length) r.init) := by
    unfold trPut
    simp only
    rw [if_neg (by rw [hph]; simp), if_neg (by omega), ← hu, ← hv, hcl]
  rw [hunf, he1]
  simp only
  have h18 : 256 * (18 + u) = 4608 + r.done := by omega
  rw [h18] at a5 a7
  rcases a7 with ⟨rfl, o1, c1⟩ | ⟨rfl, ha⟩
  rotate_left
  · rw [if_pos (by decide)]
    refine ⟨5, g1, r, r, rfl, hstay g1 a1 a2 a3 a5, a2, a3, drop_take_eq a5, fun q => (by rw [q] at ha; cases ha), .inr ⟨rfl, ha, .inl rfl⟩⟩
  rw [if_neg (by simp)]
  have l1 := a1.len
  have hbr1 : bkR g1 18 = true := decide_eq_true ⟨by decide, by omega⟩
  obtain ⟨hpd, hpd4⟩ := padN_lt p.length
  obtain ⟨m, hm⟩ : ∃ m, (padB p).length = 4 * m := ⟨(padB p).length / 4, by rw [padB_len]; omega⟩
  have hm2 := hm
  rw [padB_len] at hm2
  have hwr : bkWrite g1 18 (r.done : Nat) p = progF g1 ((4608 + r.done : Nat) : Int) (padB p) := by
    unfold bkWrite
    rw [if_neg (by rw [hbr1]; simp), if_neg (by omega)]
    congr 1 <;> omega
  obtain ⟨e2, g2, he2, b1, b2, b3, b4, b5, b6, b7⟩ := prog_hi a1 a2 o1 (o := 4608 + r.done) (m := m) (d := padB p) (by omega) hm (by omega) (rep_take_of c1 (by omega))
  rw [hwr, he2]
  simp only
  have hb52 := b5.trans a5
  have hg2arm : g2.armed = true → f.armed = true := fun q => a6 (b6 q)
  rcases b7 with ⟨rfl, o2, c2⟩ | ⟨rfl, ha⟩
  rotate_left
  · rw [if_pos (by decide)]
    refine ⟨5, g2, r, r, rfl, hstay g2 b1 b2 (b3.trans a3) hb52, b2, b3.trans a3, drop_take_eq hb52, fun q => ?_, .inr ⟨rfl, a6 ha, .inl rfl⟩⟩
    rw [a6 ha] at q; cases q
  rw [if_neg (by simp)]
  have hpiece : (g2.b.drop (4608 + r.done)).take p.length = p := by
    have := congrArg (List.take p.length) c2
    rw [List.take_take, Nat.min_eq_left (by omega)] at this
    rw [this, padB, List.take_left' rfl]
  obtain ⟨nr, hnr⟩ : ∃ nr : Rec, nr = { r with phase := 1, done := r.done + p.length, init := r.init } := ⟨_, rfl⟩
  have hnk : nr.Ok := by rw [hnr]; exact ⟨hr.seq, hr.floor, hr.bytes, hr.sum, by show r.done + p.length < 2 ^ 32; omega, hr.init⟩
  have hnright : nr.right = true := by
    rw [hnr]
    simp only [Rec.right, decide_eq_true_eq] at hrr ⊢
    exact ⟨hrr.1, by omega, by decide, hrr.2.2.2.1, .inl (by decide)⟩
  have hnw : ({ nr with seq := r.seq + 1 } : Rec) = wantR r p.length := by rw [hnr]; rfl
  have hgb : ∀ q, q ≤ 1 → pg g2.b q = pg f0.b q := fun q hq => by rw [← hb]; exact pg_take hb52 (by omega)
  have hG := (hT.stepG hnk b1 o2 b2 hgb (fun q => ⟨(ga (hg2arm q)).1, by rw [b4, a4]; exact (ga (hg2arm q)).2⟩) ht (by omega)).2 hnright
  obtain ⟨got, _, hTn, hcase⟩ := hG
  have hdrop := saveS_drop b2 nr (by have := b1.len; omega)
  have hworn := saveS_worn g2 nr
  have hsok := (saveS_ok b2 nr).1
  rw [hnw] at hcase
  have hcalm : f.armed = false → (saveS g2 nr).2.1 = 0 ∧ powerF (saveS g2 nr).2.2 = (saveS g2 nr).2.2 := by
    intro q
    have hga : g2.armed = false := by
      cases hx : g2.armed with
      | false => rfl
      | true => rw [hg2arm hx] at q; cases q
    obtain ⟨g', hs, hT'⟩ := (hT.mono (m := n + 1) (by omega)).calm hnk hnright b1 o2 b2 hgb hga (by have := hT.seq; omega) (by omega)
    rw [hs]
    exact ⟨rfl, power_on hT'.off hT'.armed⟩
  unfold trSave
  simp only
  rw [← hnr]
  generalize saveS g2 nr = sv at *
  obtain ⟨sr, se, sg⟩ := sv
  simp only at hTn hcase hdrop hworn hsok hcalm ⊢
  have hpre : (sg.b.drop 4608).take r.done = (f.b.drop 4608).take r.done := by
    rw [drop_of_512 hdrop (by decide)]; exact drop_take_eq hb52
  have hpc : (sg.b.drop (4608 + r.done)).take p.length = p := by
    rw [drop_of_512 hdrop (by omega)]; exact hpiece
  refine ⟨se, sg, _, got, rfl, hTn, hsok, hworn.trans (b3.trans a3), hpre, hcalm, ?_⟩
  rcases hcase with ⟨rfl, rfl, hgw⟩ | ⟨rfl, harm, hgw⟩
  · exact .inl ⟨rfl, hgw, by rw [if_pos rfl], hpc⟩
  · refine .inr ⟨rfl, hg2arm harm, ?_⟩
    rcases hgw with hgw | hgw
    · exact .inl hgw
    · exact .inr ⟨hgw, hpc⟩
/-- An image begins, on fresh flash. -/
theorem start_hi {n : Nat} (hn1 : 34 ≤ n) (hn2 : n ≤ 64) {init : List UInt8} (hi : init.length ≤ 128) (t : Nat) :
    ∃ g, trStart (newF n, rec0) init = (0, g, { rec0 with seq := 2, phase := 1, init := init }) ∧ Tn t 0 g { rec0 with seq := 2, phase := 1, init := init } ∧ g.worn.length = n := by
  obtain ⟨f0, hf0⟩ : ∃ f0, f0 = newF n := ⟨_, rfl⟩
  have hok0 : f0.Ok := by rw [hf0]; exact newF_ok hn2
  have hb0 : f0.b = List.replicate (256 * n) 255 := by rw [hf0]; rfl
  have hw0 : f0.worn.length = n := by rw [hf0]; exact List.length_replicate
  have ht0 : Two f0 := ⟨by rw [hf0]; rfl, by rw [hf0]; rfl, hok0.len, by omega⟩
  have ho0 : f0.off = false := by rw [hf0]; rfl
  have ha0 : f0.armed = false := by rw [hf0]; rfl
  have hpg : ∀ p, p ≤ 1 → pg f0.b p = List.replicate 256 255 := by
    intro p hp
    unfold pg
    rw [hb0, List.drop_replicate, List.take_replicate, Nat.min_eq_left (by omega)]
  obtain ⟨g1, hs1, hT1⟩ := first_save ht0 hok0 ho0 ha0 (hpg 0 (by decide)) (hpg 1 (by decide)) (r := rec0) rec0_ok (by decide) t 0
  have hw1 : g1.worn.length = n := by
    have := saveS_worn f0 rec0
    rw [hs1] at this; exact this.trans hw0
  have e1 : trSave (f0, rec0) 0 0 [] = (0, g1, { rec0 with seq := 1 }) := by
    unfold trSave
    simp only
    rw [show ({ rec0 with phase := 0, done := 0, init := [] } : Rec) = rec0 from rfl, hs1]
    rfl
  have hbr : bkR g1 18 = true := decide_eq_true ⟨by decide, by omega⟩
  have hcl : bkClear g1 18 0 16 = clearF (18 : Nat) 16 (0 : Nat) g1 := by
    unfold bkClear
    rw [if_neg (by rw [hbr]; decide)]
    rfl
  obtain ⟨e2, g2, he2, a1, a2, a3, a4, a5, a6, a7⟩ := clear_hi 18 16 0 hT1.two hT1.ok hT1.off (by omega)
  rcases a7 with ⟨rfl, o2, c2⟩ | ⟨_, ha⟩
  rotate_left
  · rw [hT1.armed] at ha; cases ha
  have hga : g2.armed = false := by
    cases hx : g2.armed with
    | false => rfl
    | true => have := a6 hx; rw [hT1.armed] at this; cases this
  obtain ⟨nr, hnr⟩ : ∃ nr : Rec, nr = { rec0 with seq := 1, phase := 1, done := 0, init := init } := ⟨_, rfl⟩
  have hnk : nr.Ok := by rw [hnr]; exact ⟨by show (1 : Nat) < 2 ^ 32; decide, by show (0 : Nat) < 2 ^ 32; decide, by show (0 : Nat) < 2 ^ 32; decide, by show (0 : Nat) < 2 ^ 32; decide, by show (0 : Nat) < 2 ^ 32; decide, by show init.length < 2 ^ 40; omega⟩
  have hnright : nr.right = true := by
    rw [hnr]
    simp only [Rec.right, decide_eq_true_eq]
    exact ⟨by show (0 : Nat) ≤ 4096; decide, by show (0 : Nat) ≤ 4096; decide, by show ((1 : UInt8)).toNat ≤ 2; decide, hi, .inl (by show ((1 : UInt8)).toNat ≠ 0; decide)⟩
  obtain ⟨g3, hs3, hT3⟩ := hT1.calm hnk hnright a1 o2 a2 (fun q hq => pg_take a5 (by omega)) hga (by decide) (by decide)
  have hnw : ({ nr with seq := ({ rec0 with seq := 1 } : Rec).seq + 1 } : Rec) = { rec0 with seq := 2, phase := 1, init := init } := by rw [hnr]; rfl
  rw [hnw] at hs3 hT3
  have hw3 : g3.worn.length = n := by
    have := saveS_worn g2 nr
    rw [hs3] at this; exact this.trans (a3.trans hw1)
  refine ⟨g3, ?_, hT3, hw3⟩
  unfold trStart
  rw [← hf0, e1]
  simp only
  rw [if_neg (by simp), hcl, he2]
  simp only
  rw [if_neg (by simp)]
  unfold trSave
  simp only
  rw [show ({ rec0 with seq := 1, phase := 1, done := 0, init := init } : Rec) = nr from hnr.symm, hs3]
  simp only [if_true]
end Go.Fw
