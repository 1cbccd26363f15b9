/-
  A frame for proofs about programs of the model, part 3.
-/
import Derived.Test.YtjehncilahjmdaaFwB
import Derived.ProofKit
import Derived.OpenShut
import Derived.SizedLaws
import Derived.ChangeOld
import Derived.Carry
import Derived.MapKept
set_option linter.unusedSimpArgs false
set_option linter.unnecessarySimpa false
set_option linter.unusedVariables false
set_option linter.unusedSectionVars false
/-
  Where 'simp' looks in a walk: at what is known, never at the code that is left.
-/
namespace Go.Fw
section
variable {P : Program} {L : Nat} {k : List It} {e e' : Env} {H H' : Heap} {Q : Post} {p : Pend} {d : Option Nat} {pos g t : Nat} {ks chk : List Nat} {l : List (DOper × List Nat)} {o : IOp} {r r' : R1} {u u' : R2} {b b' : Bool} {v v' : Option AV} {ca cb : KCode}
theorem W_cg (h1 : e = e') (h2 : H = H') : W P L k e H Q = W P L k e' H' Q := by rw [h1, h2]
theorem WR_cg (h1 : e = e') (h2 : H = H') : WR P L l p e H k Q = WR P L l p e' H' k Q := by rw [h1, h2]
theorem WO_cg (h1 : e = e') (h2 : H = H') : WO P L o pos chk d ks l p e H k Q = WO P L o pos chk d ks l p e' H' k Q := by rw [h1, h2]
theorem WS_cg (h1 : r = r') : WS P L r d ks l p e H k Q = WS P L r' d ks l p e H k Q := by rw [h1]
theorem WSr_cg (h1 : r = r') (h2 : b = b') : WSr P L r b o pos d ks l p e H k Q = WSr P L r' b' o pos d ks l p e H k Q := by rw [h1, h2]
theorem WH_cg (h1 : u = u') : WH P L u chk d ks l p e k Q = WH P L u' chk d ks l p e k Q := by rw [h1]
theorem WHA_cg {B : Nat} (h1 : u = u') : WHA P L B u chk d ks l p e k Q = WHA P L B u' chk d ks l p e k Q := by rw [h1]
theorem WG_cg (h1 : v = v') : WG P L v g b o pos chk d ks l p e H k Q = WG P L v' g b o pos chk d ks l p e H k Q := by rw [h1]
theorem WC_cg (h1 : v = v') : WC P L v t ca cb e H k Q = WC P L v' t ca cb e H k Q := by rw [h1]
theorem WX_cg {i : Nat} (h1 : e = e') (h2 : H = H') : WX P L i k e H Q = WX P L i k e' H' Q := by rw [h1, h2]
/-- Where ways meet behind a guard: what is behind is walked once. -/
theorem WG_join (e1 : Env) (H1 : Heap) (h1 : W P L k e1 H1 Q) (h2 : ∀ k' Q', W P L k' e1 H1 Q' → WG P L v g b o pos chk d ks l p e H k' Q') : WG P L v g b o pos chk d ks l p e H k Q := h2 k Q h1
theorem WC_join (e1 : Env) (H1 : Heap) {c : KCode} (h1 : W P L (.c c :: k) e1 H1 Q) (h2 : ∀ k' Q', W P L k' e1 H1 Q' → WC P L v t ca cb e H k' Q') : WC P L v t ca cb e H (.c c :: k) Q := h2 _ Q h1
/-- Where ways meet behind a block that is left from within. -/
theorem W_join_blk {Y : Type} (e1 : Y → Env) (H1 : Y → Heap) {c : KCode} {id : Nat} (hQ : Q.up) (h1 : ∀ y, W P L k (e1 y) (H1 y) Q)
    (h2 : ∀ k', (∀ y e, Env.has (e1 y) e → W P L k' e (H1 y) Q) → W P L (.c c :: .blk id :: k') e H Q) : W P L (.c c :: .blk id :: k) e H Q :=
  h2 k fun y _ hs => W_sub hQ (Env.has_sub hs) (h1 y)
/-- Where ways meet behind a block that is left from within, and what is known is told anew. -/
theorem W_join_cut {Y : Type} (e1 : Y → Env) (H1 : Y → Heap) {c c' : KCode} {id : Nat} (h1 : ∀ y, W P L (.c c' :: k) (e1 y) (H1 y) Q)
    (h2 : ∀ k', (∀ y e H, cut L e H (e1 y) (H1 y) → W P L k' e H Q) → W P L (.c c :: .blk id :: k') e H Q) : W P L (.c c :: .blk id :: .c (.cut c') :: k) e H Q :=
  h2 _ fun y _ _ hs => W_cut hs (h1 y)
/-- What a call is given may be told of in another way. -/
theorem FSpec.wk {f : FuncId} {as as' : List AV} {r : AV} (hw : wkrL as as') (h : FSpec P f as' H r H') : FSpec P f as H r H' := by
  intro ro bo fr Φ w vs hvs hV hH hb
  refine h ro bo fr Φ w vs (by rw [hvs]; exact wkrL_len hw) (fun j v u hj hu => ?_) hH hb
  obtain ⟨x, h1, h2⟩ := wkrL_get hw j v hj
  exact (hV j x u h1 hu).weak h2
/-- No value is nil and not empty. -/
theorem FSpec.not_nil {f : FuncId} {as : List AV} {r : AV} {i s : Nat} {m : Md} {xs : List AV} (h1 : as[i]? = some (.list s m xs)) (h2 : m.nl = true) (h3 : xs ≠ []) : FSpec P f as H r H' := by
  intro ro bo fr Φ w vs hvs hV hH hb
  have hi := (List.getElem?_eq_some_iff.1 h1).1
  have := hV i _ (vs[i]'(by omega)) h1 (by simp)
  generalize vs[i]'(by omega) = u at this
  cases this with
  | listNil => exact absurd rfl h3
  | list _ _ _ _ _ _ _ _ _ _ _ hm => rw [hm] at h2; cases h2
end
end Go.Fw

/-
  Blocks move to new numbers; empty slices in cells.
-/
namespace Go.Fw
section
variable {P : Program} {ro bo fr ro' bo' : Mem} {Φ Φ' : Emb} {H H' : Heap} {w w' : World} {L : Nat} {e e0 : Env}
def renE (ρ : Nat → Nat) : Env → Env
  | [] => []
  | (t, v) :: l => (t, v.ren ρ) :: renE ρ l
theorem renE_get {ρ : Nat → Nat} : ∀ {e : Env} {t : Nat} {v : AV}, (renE ρ e).get t = some v → ∃ x, e.get t = some x ∧ v = x.ren ρ
  | [], t, v, h => by simp [renE, Env.get] at h
  | (s, u) :: l, t, v, h => by
    simp only [renE, Env.get] at h ⊢
    split at h
    · rename_i q; subst q; cases h; exact ⟨u, by simp, rfl⟩
    · rename_i q; rw [if_neg q]; exact renE_get h
def mvN (i n k : Nat) : Nat := if k = i then n else k
def mvH (i : Nat) (b : Blk) (H : Heap) : Heap := (H.set i none).map (Option.map (Blk.ren (mvN i H.length))) ++ [some (Blk.ren (mvN i H.length) b)]
theorem mvH_get {i : Nat} {b : Blk} {k : Nat} {x : Blk} (hi : H[i]? = some (some b)) (h : (mvH i b H)[k]? = some (some x)) : (k ≠ i ∧ k < H.length ∧ ∃ y, H[k]? = some (some y) ∧ x = Blk.ren (mvN i H.length) y) ∨ (k = H.length ∧ x = Blk.ren (mvN i H.length) b) := by
  unfold mvH at h
  by_cases hlt : k < H.length
  · rw [List.getElem?_append_left (by simpa using hlt), List.getElem?_map] at h
    have hne : k ≠ i := by
      rintro rfl
      rw [List.getElem?_set_self hlt] at h; simp at h
    rw [List.getElem?_set_ne (Ne.symm hne)] at h
    cases hy : H[k]? with
    | none => rw [hy] at h; simp at h
    | some z =>
      rw [hy] at h
      cases z with
      | none => simp at h
      | some y => simp at h; exact .inl ⟨hne, hlt, y, rfl, h.symm⟩
  · rw [List.getElem?_append_right (by simp; omega)] at h
    have : k - (List.map (Option.map (Blk.ren (mvN i H.length))) (H.set i none)).length = 0 := by
      rcases Nat.eq_zero_or_pos (k - (List.map (Option.map (Blk.ren (mvN i H.length))) (H.set i none)).length) with h' | h'
      · exact h'
      · rw [List.getElem?_eq_none (by simp at h' ⊢; omega)] at h; cases h
    simp at this
    refine .inr ⟨by omega, ?_⟩
    rw [show k - (List.map (Option.map (Blk.ren (mvN i H.length))) (H.set i none)).length = 0 by simp; omega] at h
    simpa using h.symm
/-- A block gets a new number. -/
theorem cut_move (i : Nat) {b : Blk} (hi : H[i]? = some (some b)) : cut L e H (renE (mvN i H.length) e) (mvH i b H) := fun n ro bo fr Φ0 Φ a w hb h0 hS hH => by
  let Φ' : Emb := fun k => if k = H.length then Φ i else Φ k
  have hlt : i < H.length := (List.getElem?_eq_some_iff.1 hi).1
  have e1 : ∀ {k}, k ≠ H.length → Φ' k = Φ k := fun {k} h => if_neg h
  have e2 : Φ' H.length = Φ i := if_pos rfl
  have hn : Φ H.length = none := by
    cases hq : Φ H.length with
    | none => rfl
    | some p => have := hH.dom _ _ hq; omega
  have fw : ∀ k p, (fun _ : Nat => true) k = true → Φ k = some p → Φ' (mvN i H.length k) = some p := fun k p _ hp => by
    unfold mvN
    split
    · rename_i q; subst q; rw [e2]; exact hp
    · rw [e1]; exact hp
      rintro rfl; rw [hn] at hp; cases hp
  have vr : ∀ {bo : Mem} {v : AV} {u : Value}, VR ro bo Φ v u → VR ro bo Φ' (v.ren (mvN i H.length)) u := fun hv => VR.ren (q := fun _ => true) fw (Mem.le_refl _) (Mem.le_refl _) hv (AV.ids_true _)
  have own : ∀ {k : Nat} {y : Blk} {p : Option (Nat × Nat × Nat)}, H[k]? = some (some y) → p = Φ k → ((Blk.ren (mvN i H.length) y).cells = [] ∧ (Blk.ren (mvN i H.length) y).exact = false ∧ p = none) ∨ ∃ r o s, p = some (r, o, s) ∧ BlkAt ro Φ' (Blk.ren (mvN i H.length) y) w r o s := fun {k y p} hy hp => by
    subst hp
    rcases hH.own k y hy with ⟨k1, k2, k3⟩ | ⟨r2, o2, s2, k1, ⟨⟨c2, m1, m2, m3, m4⟩, m5, m6, m7⟩⟩
    · exact .inl ⟨by simp [Blk.ren, renL, k1, subL], k2, k3⟩
    · refine .inr ⟨r2, o2, s2, k1, ⟨⟨c2, m1, m2, fun j v u hv hu => ?_, m4⟩, by simp only [Blk.ren, renL, subL_length]; exact m5, fun q => by simp only [Blk.ren, renL, subL_length]; exact m6 q, m7⟩⟩
      obtain ⟨z, n1, rfl⟩ := subL_get _ _ _ hv
      exact vr (m3 j z u n1 hu)
  refine ⟨ro, Φ', ⟨hS.size, hS.defers, fun t v ht => ?_⟩, ⟨hH.hro, hH.hfr, fun k x hk => ?_, fun k k' x y r p q hk hk' hp hq => ?_, fun k x r p hk hp => ?_, fun k p hp => ?_, hH.disj⟩, Mem.le_refl _, fun k p hk => ?_⟩
  · obtain ⟨x, h1, rfl⟩ := renE_get ht
    obtain ⟨u, g1, g2⟩ := hS.env t x h1
    exact ⟨u, g1, vr g2⟩
  · rcases mvH_get hi hk with ⟨hne, hl, y, hy, rfl⟩ | ⟨rfl, rfl⟩
    · exact own hy (e1 (by omega))
    · exact own hi e2
  · rcases mvH_get hi hk with ⟨hne, hl, x', hx', rfl⟩ | ⟨rfl, rfl⟩
    · rw [e1 (by omega)] at hp
      rcases mvH_get hi hk' with ⟨hne', hl', y', hy', rfl⟩ | ⟨rfl, rfl⟩
      · rw [e1 (by omega)] at hq
        exact hH.inj k k' x' y' r p q hx' hy' hp hq
      · rw [e2] at hq
        exact absurd (hH.inj k i x' b r p q hx' hi hp hq) hne
    · rw [e2] at hp
      rcases mvH_get hi hk' with ⟨hne', hl', y', hy', rfl⟩ | ⟨rfl, rfl⟩
      · rw [e1 (by omega)] at hq
        exact absurd (hH.inj k' i y' b r q p hy' hi hq hp) hne'
      · rfl
  · rcases mvH_get hi hk with ⟨hne, hl, x', hx', rfl⟩ | ⟨rfl, rfl⟩
    · rw [e1 (by omega)] at hp; exact hH.sep k x' r p hx' hp
    · rw [e2] at hp; exact hH.sep i b r p hi hp
  · simp only [mvH, List.length_append, List.length_map, List.length_set, List.length_cons, List.length_nil]
    by_cases hk : k = H.length
    · omega
    · rw [e1 hk] at hp; have := hH.dom k p hp; omega
  · have := (h0 k p hk).2
    rw [e1]
    · exact this
    · rintro rfl; rw [hn] at this; cases this
/-- An empty slice in a cell is one of a block that lies nowhere. -/
theorem cut_ghostB (id off s T : Nat) {b : Blk} {e' : Nat} {m : Md} (hs : 0 < s) (hi : H[id]? = some (some b)) (hg : b.cells[off]? = some (.list e' m [])) (hm : m.full = true) :
    cut L e H e (H.set id (some ⟨b.cells.set off (.slice s H.length 0 0 none), b.elem, b.exact⟩) ++ [some ⟨[], T, false⟩]) := fun n ro bo fr Φ0 Φ a w hb h0 hS hH => by
  have hlt : id < H.length := (List.getElem?_eq_some_iff.1 hi).1
  have hget : ∀ {i : Nat} {x : Blk}, (H.set id (some ⟨b.cells.set off (.slice s H.length 0 0 none), b.elem, b.exact⟩) ++ [some ⟨[], T, false⟩])[i]? = some (some x) → (i ≠ id ∧ H[i]? = some (some x)) ∨ (i = id ∧ x = ⟨b.cells.set off (.slice s H.length 0 0 none), b.elem, b.exact⟩) ∨ (i = H.length ∧ x = ⟨[], T, false⟩) := fun {i x} hx => by
    by_cases hl : i < H.length
    · rw [List.getElem?_append_left (by simpa using hl)] at hx
      by_cases hq : i = id
      · subst hq; rw [List.getElem?_set_self hl] at hx; cases hx; exact .inr (.inl ⟨rfl, rfl⟩)
      · rw [List.getElem?_set_ne (Ne.symm hq)] at hx; exact .inl ⟨hq, hx⟩
    · rw [List.getElem?_append_right (by simp; omega)] at hx
      simp only [List.length_set] at hx
      have : i - H.length = 0 := by
        rcases Nat.eq_zero_or_pos (i - H.length) with h | h
        · exact h
        · rw [List.getElem?_eq_none (by simp; omega)] at hx; cases hx
      rw [this] at hx; simp at hx
      exact .inr (.inr ⟨by omega, hx.symm⟩)
  have hn : Φ H.length = none := by
    cases hq : Φ H.length with
    | none => rfl
    | some p => have := hH.dom _ _ hq; omega
  refine ⟨ro, Φ, hS, ⟨hH.hro, hH.hfr, fun i x hx => ?_, fun i j x y r p q hx hy hp hq => ?_, fun i x r p hx hp => ?_, fun i p hp => by have := hH.dom i p hp; simp; omega, hH.disj⟩, Mem.le_refl _, fun i p hi => (h0 i p hi).2⟩
  · rcases hget hx with ⟨_, hx⟩ | ⟨rfl, rfl⟩ | ⟨rfl, rfl⟩
    · exact hH.own i x hx
    · rcases hH.own i b hi with ⟨k1, k2, k3⟩ | ⟨r2, o2, s2, k1, ⟨⟨c2, m1, m2, m3, m4⟩, m5, m6, m7⟩⟩
      · rw [k1] at hg; simp at hg
      · refine .inr ⟨r2, o2, s2, k1, ⟨⟨c2, m1, m2, fun j v u hv hu => ?_, m4⟩, by simpa using m5, fun q => by simpa using m6 q, m7⟩⟩
        simp only at hv
        by_cases hj : off = j
        · subst hj
          have hl := (List.getElem?_eq_some_iff.1 hg).1
          rw [List.getElem?_set_self hl] at hv
          cases hv
          have h2 := m3 off _ u hg hu
          cases h2 with
          | listNil => exact .sliceE _ _ _ _ hs
          | list _ _ _ r off' len cap c T fz he hm' hlen h1 hf =>
            have hl0 : len = 0 := by
              rcases Nat.eq_zero_or_pos len with h | h
              · exact h
              · have := Nat.mul_pos h he; simp at hlen; omega
            have := hf hm
            subst this; subst hl0
            exact .sliceE _ _ _ _ hs
        · rw [List.getElem?_set_ne hj] at hv
          exact m3 j v u hv hu
    · exact .inl ⟨rfl, rfl, hn⟩
  · rcases hget hx with ⟨_, hx1⟩ | ⟨h1, h2⟩ | ⟨h1, h2⟩
    · rcases hget hy with ⟨_, hy1⟩ | ⟨h3, h4⟩ | ⟨h3, h4⟩
      · exact hH.inj i j x y r p q hx1 hy1 hp hq
      · subst h3; exact hH.inj i j x b r p q hx1 hi hp hq
      · rw [h3, hn] at hq; cases hq
    · rcases hget hy with ⟨_, hy1⟩ | ⟨h3, h4⟩ | ⟨h3, h4⟩
      · subst h1; exact hH.inj i j b y r p q hi hy1 hp hq
      · rw [h1, h3]
      · rw [h3, hn] at hq; cases hq
    · rw [h1, hn] at hp; cases hp
  · rcases hget hx with ⟨_, hx⟩ | ⟨rfl, rfl⟩ | ⟨rfl, rfl⟩
    · exact hH.sep i x r p hx hp
    · exact hH.sep i b r p hi hp
    · rw [hn] at hp; cases hp
end
section
variable {ro bo fr : Mem} {Φ : Emb} {H H0 : Heap} {w : World} {L : Nat} {e e0 : Env}
def hasRW (σ : List Nat) : Env → Env → Prop
  | [], _ => True
  | (t, v) :: l, e => (∃ x, e.get t = some x ∧ x.ids (fun k => σ.contains k) = true ∧ AV.wkr (x.ren (bwd σ)) v) ∧ hasRW σ l e
def leRW (σ : List Nat) (H : Heap) : List Nat → Heap → Prop
  | [], H0 => H0 = []
  | _ :: ks, none :: H0 => leRW σ H ks H0
  | k :: ks, some b :: H0 => (∃ x, H.blk k = some x ∧ idsL (fun k => σ.contains k) x.cells = true ∧ wkrL (renL (bwd σ) x.cells) b.cells ∧ x.elem = b.elem ∧ (b.exact = true → x.exact = true)) ∧ leRW σ H ks H0
  | _ :: _, [] => False
theorem hasRW_get {σ : List Nat} : ∀ {e0 e : Env}, hasRW σ e0 e → ∀ (t : Nat) (v : AV), e0.get t = some v → ∃ x, e.get t = some x ∧ x.ids (fun k => σ.contains k) = true ∧ AV.wkr (x.ren (bwd σ)) v
  | [], e, _, t, v, h => by simp [Env.get] at h
  | (s, u) :: l, e, h, t, v, ht => by
    simp only [Env.get] at ht
    split at ht
    · rename_i q; cases ht; subst q; exact h.1
    · exact hasRW_get h.2 t v ht
theorem leRW_get {σ : List Nat} {H : Heap} : ∀ {ks : List Nat} {H0 : Heap}, leRW σ H ks H0 → ks.length = H0.length ∧ ∀ (i : Nat) (b : Blk), H0[i]? = some (some b) → ∃ k x, ks[i]? = some k ∧ H.blk k = some x ∧ idsL (fun k => σ.contains k) x.cells = true ∧ wkrL (renL (bwd σ) x.cells) b.cells ∧ x.elem = b.elem ∧ (b.exact = true → x.exact = true)
  | [], H0, h => by
    have : H0 = [] := h
    subst this
    exact ⟨rfl, fun i b hb => by simp at hb⟩
  | k :: ks, [], h => h.elim
  | k :: ks, none :: H0, h => by
    obtain ⟨h1, h2⟩ := leRW_get (ks := ks) (H0 := H0) h
    refine ⟨by simp [h1], fun i b hb => ?_⟩
    cases i with
    | zero => simp at hb
    | succ i => simpa using h2 i b (by simpa using hb)
  | k :: ks, some b' :: H0, h => by
    obtain ⟨⟨x, g1, g2⟩, h⟩ := h
    obtain ⟨h1, h2⟩ := leRW_get (ks := ks) (H0 := H0) h
    refine ⟨by simp [h1], fun i b hb => ?_⟩
    cases i with
    | zero => simp at hb; subst hb; exact ⟨k, x, rfl, g1, g2⟩
    | succ i => simpa using h2 i b (by simpa using hb)
/-- Blocks numbered anew, and less told of values. -/
theorem cut_rw (σ : List Nat) (hn : σ.Nodup) (hL : σ.take L = List.range L) (h1 : hasRW σ e0 e) (h2 : leRW σ H σ H0) : cut L e H e0 H0 := fun n ro bo fr Φ0 Φ a w hb h0 hS hH => by
  obtain ⟨hl, hg⟩ := leRW_get h2
  have bk : ∀ i p, (σ.contains i) = true → Φ i = some p → (Φ.via σ) (bwd σ i) = some p := fun i p hi hp => by
    rw [Emb.via_get (bwd_get (by simpa using hi))]; exact hp
  refine ⟨ro, Φ.via σ, ⟨hS.size, hS.defers, fun t v ht => ?_⟩, ⟨hH.hro, hH.hfr, fun i b hi => ?_, fun i j b c r p q hi hj hp hq => ?_, fun i b r p hi hp => ?_, fun i p hp => ?_, hH.disj⟩, Mem.le_refl _, fun i p hi => ?_⟩
  · obtain ⟨x, g1, g2, g3⟩ := hasRW_get h1 t v ht
    obtain ⟨u, q1, q2⟩ := hS.env t x g1
    exact ⟨u, q1, (VR.ren bk (Mem.le_refl _) (Mem.le_refl _) q2 g2).weak g3⟩
  · obtain ⟨k, x, g1, g2, g3, g4, g5, g6⟩ := hg i b hi
    have hlen : x.cells.length = b.cells.length := by have := wkrL_len g4; simpa [renL, subL_length] using this
    rw [Emb.via_get g1]
    rcases hH.own k x (blk_at g2) with ⟨k1, k2, k3⟩ | ⟨r2, o2, s2, k1, ⟨⟨c2, m1, m2, m3, m4⟩, m5, m6, m7⟩⟩
    · exact .inl ⟨by rw [k1] at hlen; exact List.length_eq_zero_iff.1 hlen.symm, (by cases hx : b.exact with
        | false => rfl
        | true => rw [g6 hx] at k2; cases k2), k3⟩
    · refine .inr ⟨r2, o2, s2, k1, ⟨⟨c2, by rw [← g5]; exact m1, m2, fun j v u hv hu => ?_, m4⟩, by rw [← hlen]; exact m5, fun q => by rw [← hlen]; exact m6 (g6 q), by rw [← g5]; exact m7⟩⟩
      obtain ⟨y, q1, q2⟩ := wkrL_get g4 j v hv
      obtain ⟨z, n1, rfl⟩ := subL_get _ _ _ q1
      exact (VR.ren bk (Mem.le_refl _) (Mem.le_refl _) (m3 j z u n1 hu) (idsL_get g3 j z n1)).weak q2
  · obtain ⟨k, k1, k2⟩ := Emb.via_some hp
    obtain ⟨k', k3, k4⟩ := Emb.via_some hq
    obtain ⟨_, x, q1, q2, _⟩ := hg i b hi
    obtain ⟨_, y, q3, q4, _⟩ := hg j c hj
    rw [k1] at q1; cases q1
    rw [k3] at q3; cases q3
    have := hH.inj k k' x y r p q (blk_at q2) (blk_at q4) k2 k4
    subst this
    exact (List.getElem?_inj (List.getElem?_eq_some_iff.1 k1).1 hn).1 (by rw [k1, k3])
  · obtain ⟨k, k1, k2⟩ := Emb.via_some hp
    obtain ⟨_, x, q1, q2, _⟩ := hg i b hi
    rw [k1] at q1; cases q1
    exact hH.sep k x r p (blk_at q2) k2
  · obtain ⟨k, k1, k2⟩ := Emb.via_some hp
    rw [← hl]; exact (List.getElem?_eq_some_iff.1 k1).1
  · obtain ⟨g1, g2⟩ := h0 i p hi
    have : σ[i]? = some i := by
      have := congrArg (fun l : List Nat => l[i]?) hL
      simp only [List.getElem?_take, if_pos g1, List.getElem?_range g1] at this
      exact this
    rw [Emb.via_get this]
    exact g2
theorem wkrL_app : ∀ (a : List AV) {b c : List AV}, wkrL b c → wkrL (a ++ b) (a ++ c)
  | [], _, _, h => h
  | x :: a, _, _, h => ⟨AV.wkr_refl x, wkrL_app a h⟩
theorem wkrL_app2 : ∀ {a a' b b' : List AV}, wkrL a a' → wkrL b b' → wkrL (a ++ b) (a' ++ b')
  | [], a', _, _, h, k => by have : a' = [] := h; subst this; exact k
  | x :: a, [], _, _, h, _ => h.elim
  | x :: a, y :: a', _, _, h, k => ⟨h.1, wkrL_app2 h.2 k⟩
end
section
variable {L : Nat} {r v : AV} {H H' : Heap}
theorem fin_move (i : Nat) {b : Blk} (hi : H[i]? = some (some b)) (h : fin L r H' (v.ren (mvN i H.length)) (mvH i b H)) : fin L r H' v H := cut_trans (cut_move i hi) h
theorem fin_ghostB (id off s T : Nat) {b : Blk} {e' : Nat} {m : Md} (hs : 0 < s) (hi : H[id]? = some (some b)) (hg : b.cells[off]? = some (.list e' m [])) (hm : m.full = true)
    (h : fin L r H' v (H.set id (some ⟨b.cells.set off (.slice s H.length 0 0 none), b.elem, b.exact⟩) ++ [some ⟨[], T, false⟩])) : fin L r H' v H := cut_trans (cut_ghostB id off s T hs hi hg hm) h
end
section
variable {P : Program} {L : Nat} {k : List It} {e : Env} {H : Heap} {Q : Post} {p : Pend} {d : Option Nat} {pos : Nat} {ks chk : List Nat} {l : List (DOper × List Nat)}
theorem FSpec.frameR {f : FuncId} {as : List AV} {r : AV} {Hs Hs' : Heap} (σ : List Nat) (hn : σ.Nodup) (hl' : σ.length ≤ Hs'.length) (hσ : σ.all (fun k => decide (k < H.length)) = true)
    (hR : leR σ H σ Hs) (ha : idsL (fun k => σ.contains k) as = true) (h : FSpec P f (renL (bwd σ) as) Hs r Hs') : FSpec P f as H (r.ren (fwd σ H.length)) (backH σ H Hs') := by
  obtain ⟨h1, h2⟩ := leR_get hR
  refine FSpec.frame σ hn h1 hl' (fun k hk => by simpa using List.all_eq_true.1 hσ k hk) (fun i k b hi hb => ?_) ha h
  obtain ⟨k', x, g1, g2, g3, g4⟩ := h2 i b hb
  rw [hi] at g1; cases g1
  exact ⟨x, blk_at g2, g4.symm, g3⟩
/-- A call over some of the blocks: 'σ' are their numbers. -/
theorem WO_callF (σ : List Nat) {f : FuncId} {args : List Opd} {as as' : List AV} {r : AV} {Hs Hs' : Heap} (h1 : e.opds args = some as) (has : renL (bwd σ) as = as') (h2 : FSpec P f as' Hs r Hs') (hn : σ.Nodup ∧ σ.length ≤ Hs'.length ∧ σ.all (fun k => decide (k < H.length)) = true ∧ idsL (fun k => σ.contains k) as = true)
    (hR : leR σ H σ Hs) (h3 : chkF chk p (backH σ H Hs')) (h4 : WR P L l p ((e.setO d (r.ren (fwd σ H.length))).dels ks) (backH σ H Hs') k Q) : WO P L (.call f args) pos chk d ks l p e H k Q := by
  subst has
  exact WO_call h1 (FSpec.frameR σ hn.1 hn.2.1 hn.2.2.1 hR hn.2.2.2 h2) h3 h4
end
theorem u8i (a : UInt8) (k : Int) (h : 0 ≤ k ∧ k < 256) : ((a.toNat : Int) = k) = (a = UInt8.ofNat k.toNat) := by
  apply propext
  have e : (UInt8.ofNat k.toNat).toNat = k.toNat := UInt8.toNat_ofNat_of_lt' (by show k.toNat < 256; omega)
  refine ⟨fun q => UInt8.toNat_inj.1 ?_, fun q => ?_⟩
  · rw [e]; omega
  · rw [q, e]; omega
theorem u8e (a b : UInt8) : ((a.toNat : Int) = (b.toNat : Int)) = (a = b) := by
  apply propext
  exact ⟨fun h => UInt8.toNat_inj.1 (Int.natCast_inj.1 h), fun h => by rw [h]⟩
end Go.Fw

/-
  What a law is called with: the reading of its arguments, as abstract values over memory that is only read.
-/
namespace Go.Fw
def memOf (w : World) : Mem := fun r => w.heap[r]?
def noEmb : Emb := fun _ => none
def VL (w : World) (xs : List AV) (cs : List Value) : Prop := xs.length = cs.length ∧ ∀ (j : Nat) (v : AV) (u : Value), xs[j]? = some v → cs[j]? = some u → VR (memOf w) noMem noEmb v u ∧ u.oneCell' = true
/-- Cells of a type. -/
def Fit (P : Program) : Nat → TypeId → List AV → Prop
  | 0, _, _ => False
  | n + 1, t, xs => match P.underlying t with
    | some .bool => ∃ b, xs = [.bool b]
    | some (.int k) => ∃ m, (Lit.int k m).wf = true ∧ xs = [.int k m]
    | some .string => ∃ l : List UInt8, l.length ≤ reachBytes ∧ xs = [.str l]
    | some (.pointer e) => xs = [.nil] ∨ ∃ ys, Fit P n e ys ∧ ys.length = P.cellsOf e ∧ xs = [.rptr false ys]
    | some (.slice e) => ∃ (nl full : Bool) (yss : List (List AV)), (nl = true → yss = []) ∧ yss.length * P.bytesOf e ≤ reachBytes ∧ yss.length ≤ maxLen ∧ (∀ y ∈ yss, Fit P n e y ∧ y.length = P.cellsOf e) ∧ xs = [.list (P.cellsOf e) ⟨nl, full, false⟩ yss.flatten]
    | some (.struct fs) => ∃ yss : List (List AV), yss.length = fs.size ∧ xs = yss.flatten ∧ ∀ (i : Nat) (f : Field) (y : List AV), fs[i]? = some f → yss[i]? = some y → Fit P n f.type y ∧ y.length = P.cellsOf f.type
    | some (.array m e) => ∃ yss : List (List AV), yss.length = m ∧ (∀ y ∈ yss, Fit P n e y ∧ y.length = P.cellsOf e) ∧ xs = yss.flatten
    | _ => False
def fldsOK (P : Program) (g : TypeId → Bool) (T : Nat) : List Field → Nat → Bool
  | [], o => decide (o = T)
  | f :: fs, o => decide (f.offset = o) && g f.type && fldsOK P g T fs (o + P.cellsOf f.type)
/-- Types that are read so. -/
def okT (P : Program) : Nat → TypeId → Bool
  | 0, _ => false
  | n + 1, t => match P.underlying t with
    | some .bool => true
    | some (.int _) => true
    | some .string => true
    | some (.pointer e) => okT P n e && decide (0 < P.cellsOf e)
    | some (.slice e) => okT P n e && decide (0 < P.cellsOf e)
    | some (.struct fs) => fldsOK P (okT P n) (P.cellsOf t) fs.toList 0
    | some (.array m e) => okT P n e && decide (P.cellsOf t = m * P.cellsOf e)
    | _ => false

section
variable {H : Type} {enc : TypeId × Value → H} {P : Program} {w : World}
theorem VL.append {a b : List AV} {c d : List Value} (h : VL w a c) (k : VL w b d) : VL w (a ++ b) (c ++ d) := by
  refine ⟨by simp [h.1, k.1], fun j v u hv hu => ?_⟩
  rw [List.getElem?_append] at hv hu
  rw [← h.1] at hu
  split at hv
  · rename_i hj; rw [if_pos hj] at hu; exact h.2 j v u hv hu
  · rename_i hj; rw [if_neg hj] at hu; exact k.2 _ v u hv hu
theorem VL.one {v : AV} {u : Value} (h : VR (memOf w) noMem noEmb v u) (ho : u.oneCell' = true) : VL w [v] [u] := ⟨rfl, fun j x y hx hy => by
  cases j with
  | zero => simp at hx hy; subst hx; subst hy; exact ⟨h, ho⟩
  | succ j => simp at hx⟩
theorem add_block (a : Addr) (n : Nat) : (a.add n).block = a.block := by unfold Addr.add; split <;> rfl
theorem add_off (a : Addr) (n : Nat) : (a.add n).off = a.off + n := by unfold Addr.add; split <;> simp_all
theorem cell_spec {a : Addr} {u : Value} (h : w.cell? a = some u) : ∃ c T fz, w.heap[a.block]? = some (.cells c T fz) ∧ a.spot = none ∧ c[a.off]? = some u := by
  unfold World.cell? at h
  split at h
  · rename_i c T fz hc
    split at h
    · cases h
    · rename_i hs
      exact ⟨c, T, fz, hc, by simpa using hs, h⟩
  · cases h
theorem cells_spec {a : Addr} {n : Nat} {cs : List Value} (h : w.cells? 0 a n = some cs) : cs.length = n ∧ ∀ i, i < n → ∃ u, cs[i]? = some u ∧ w.cell? (a.add i) = some u := by
  unfold World.cells? at h
  rw [if_pos (Nat.zero_le _)] at h
  have hl := mapM_some_length h
  simp at hl
  refine ⟨hl, fun i hi => ?_⟩
  have hg := mapM_some_get h i i (by simp [hi])
  obtain ⟨u, hu⟩ : ∃ u, cs[i]? = some u := ⟨cs[i]'(by omega), by simp⟩
  exact ⟨u, hu, by rw [hg]; exact hu⟩
theorem flds_le {g : TypeId → Bool} {T : Nat} : ∀ {fl : List Field} {o : Nat}, fldsOK P g T fl o = true → o ≤ T
  | [], o, h => by simp [fldsOK] at h; omega
  | f :: fl, o, h => by
    simp only [fldsOK, Bool.and_eq_true] at h
    have := flds_le h.2
    omega
theorem weightsAll_mem {e : TypeId} {q : Nat → Bool} : ∀ {ds : List (DataW H)}, (DataW.weightsAll P e ds).all q = true → ∀ d ∈ ds, (d.weights P e).all q = true
  | [], _, d, hd => by cases hd
  | x :: ds, h, d, hd => by
    simp only [DataW.weightsAll, List.all_append, Bool.and_eq_true] at h
    rcases List.mem_cons.1 hd with rfl | hd
    · exact h.1
    · exact weightsAll_mem h.2 d hd
theorem weightsEach_get {q : Nat → Bool} : ∀ {ts : List TypeId} {ds : List (DataW H)}, (DataW.weightsEach P ts ds).all q = true → ∀ (i : Nat) (t : TypeId) (d : DataW H), ts[i]? = some t → ds[i]? = some d → (d.weights P t).all q = true
  | [], ds, _, i, t, d, ht, _ => by simp at ht
  | t' :: ts, [], _, i, t, d, _, hd => by simp at hd
  | t' :: ts, d' :: ds, h, i, t, d, ht, hd => by
    simp only [DataW.weightsEach, List.all_append, Bool.and_eq_true] at h
    cases i with
    | zero => simp at ht hd; subst ht; subst hd; exact h.1
    | succ i => exact weightsEach_get h.2 i t d (by simpa using ht) (by simpa using hd)
theorem trod_array {n e fuel : Nat} {t : TypeId} {cs : List Value} {x : DataW H × List MemPlace} (ht : P.underlying t = some (.array n e)) (h : DataW.trod enc P w 0 (fun _ => true) true fuel t cs = some x) :
    ∃ (xs : List (DataW H × List MemPlace)) (m : Nat), x.1 = .agg (xs.map (·.1)) ∧ cs.length = P.cellsOf t ∧ xs.length = n ∧
      ∀ (i : Nat), i < n → DataW.trod enc P w 0 (fun _ => true) true m e ((cs.drop (i * P.cellsOf e)).take (P.cellsOf e)) = xs[i]? := by
  cases fuel with
  | zero => simp [DataW.trod] at h
  | succ m =>
    rw [DataW.trod_step] at h
    unfold DataW.trodStep at h
    rw [ht] at h
    simp only at h
    split at h
    · rename_i hl
      simp only [Option.map_eq_some_iff] at h
      obtain ⟨xs, hx, rfl⟩ := h
      exact ⟨xs, m, rfl, hl, by simpa using mapM_some_length hx, fun i hi => mapM_some_get hx i i (by simp [hi])⟩
    · cases h
theorem trod_fit : ∀ (m : Nat) (t : TypeId), okT P m t = true → ∀ (n : Nat) (cs : List Value) (x : DataW H × List MemPlace), DataW.trod enc P w 0 (fun _ => true) true n t cs = some x → (x.1.weights P t).all (· ≤ reachBytes) = true →
    ∃ xs, VL w xs cs ∧ Fit P m t xs := by
  intro m
  induction m with
  | zero => intro t h; simp [okT] at h
  | succ m ih =>
    intro t hok n cs x h hw
    simp only [okT] at hok
    cases hu : P.underlying t with
    | none => rw [hu] at hok; cases hok
    | some td =>
      rw [hu] at hok
      cases td <;> try (cases hok; done)
      case bool =>
        obtain ⟨b, rfl, rfl⟩ := DataW.trod_bool hu h
        exact ⟨[.bool b], VL.one (.bool b) rfl, by simp only [Fit, hu]; exact ⟨b, rfl⟩⟩
      case int k =>
        obtain ⟨z, rfl, rfl, hz⟩ := DataW.trod_int hu h
        exact ⟨[.int k z], VL.one (.int k z) rfl, by simp only [Fit, hu]; exact ⟨z, hz, rfl⟩⟩
      case string =>
        obtain ⟨s, rfl, rfl, hs⟩ := DataW.trod_string hu h
        refine ⟨[.str s.data.toList], VL.one (.str _ s rfl) rfl, ?_⟩
        simp only [Fit, hu]
        refine ⟨_, ?_, rfl⟩
        simpa [DataW.weights] using hw
      case pointer e =>
        simp only [Bool.and_eq_true, decide_eq_true_eq] at hok
        rcases DataW.trod_pointer hu h with ⟨rfl, rfl⟩ | ⟨a, cs', y, n', rfl, rfl, rfl, hc, hy⟩
        · exact ⟨[.nil], VL.one .nil rfl, by simp only [Fit, hu]; exact .inl trivial⟩
        · have hw' : (y.1.weights P e).all (· ≤ reachBytes) = true := by simpa [DataW.weights, hu] using hw
          obtain ⟨ys, hV, hF⟩ := ih e hok.1 n' cs' y hy hw'
          obtain ⟨hl, hcl⟩ := cells_spec hc
          obtain ⟨u0, hu0, hc0⟩ := hcl 0 hok.2
          obtain ⟨c, T, fz, g1, g2, g3⟩ := cell_spec hc0
          rw [add_block] at g1
          have hsp : a.spot = none := by simpa [Addr.add] using g2
          have hcells : ∀ j, j < P.cellsOf e → c[a.off + j]? = cs'[j]? := fun j hj => by
            obtain ⟨u, h1, h2⟩ := hcl j hj
            obtain ⟨c', T', fz', k1, _, k3⟩ := cell_spec h2
            rw [add_block, g1] at k1
            cases k1
            rw [add_off] at k3
            rw [k3, h1]
          obtain ⟨ab, ao, asp⟩ := a
          simp only at hsp
          subst hsp
          refine ⟨[.rptr false ys], VL.one (.rptr false ys ab ao c T fz (.inl g1) ?_ (fun j v u hv hu => ?_) (fun j u hj hu => ?_)) rfl, by simp only [Fit, hu]; exact .inr ⟨ys, hF, by rw [hV.1, hl], rfl⟩⟩
          · have : c[ao + (P.cellsOf e - 1)]? = cs'[P.cellsOf e - 1]? := hcells _ (by omega)
            have h1 : P.cellsOf e - 1 < cs'.length := by omega
            rw [List.getElem?_eq_getElem h1] at this
            have := (Array.getElem?_eq_some_iff.1 this).1
            rw [hV.1, hl]; omega
          · have hj : j < P.cellsOf e := by have := (List.getElem?_eq_some_iff.1 hv).1; rw [hV.1, hl] at this; exact this
            have : c[ao + j]? = cs'[j]? := hcells j hj
            rw [this] at hu
            exact (hV.2 j v u hv hu).1
          · have hj' : j < P.cellsOf e := by rw [hV.1, hl] at hj; exact hj
            have : c[ao + j]? = cs'[j]? := hcells j hj'
            rw [this] at hu
            exact (hV.2 j (ys[j]'hj) u (by simp) hu).2
      case slice e =>
        simp only [Bool.and_eq_true, decide_eq_true_eq] at hok
        rcases DataW.trod_slice hu h with ⟨rfl, rfl⟩ | ⟨a, len, cap, elems, rest, n', rfl, rfl, rfl, _, hlc, hcm, hel, hele, _, _⟩
        · exact ⟨[.list (P.cellsOf e) ⟨true, true, false⟩ []], VL.one (.listNil _ _ hok.2) rfl, by
            simp only [Fit, hu]; exact ⟨true, true, [], fun _ => rfl, by simp, by simp, by simp, rfl⟩⟩
        · have hw' : (elems.length + rest.length) * P.bytesOf e ≤ reachBytes ∧ (DataW.weightsAll P e (elems.map (·.1))).all (· ≤ reachBytes) = true := by
            simp only [DataW.weights, hu, List.all_cons, List.all_append, Bool.and_eq_true, decide_eq_true_eq, List.length_map] at hw
            exact ⟨hw.1, hw.2.1⟩
          -- an element
          have one : ∀ i, i < len → ∃ cs' ys, w.cells? 0 (a.add (i * P.cellsOf e)) (P.cellsOf e) = some cs' ∧ VL w ys cs' ∧ Fit P m e ys ∧ ys.length = P.cellsOf e := fun i hi => by
            have hg := hele i hi
            obtain ⟨y, hy⟩ : ∃ y, elems[i]? = some y := ⟨elems[i]'(by omega), by simp⟩
            rw [hy] at hg
            obtain ⟨cs', h1, h2⟩ := Option.bind_eq_some_iff.1 hg
            obtain ⟨ys, hV, hF⟩ := ih e hok.1 n' cs' y h2 (weightsAll_mem hw'.2 _ (List.mem_map.2 ⟨y, List.mem_of_getElem? hy, rfl⟩))
            exact ⟨cs', ys, h1, hV, hF, by rw [hV.1, (cells_spec h1).1]⟩
          by_cases hl0 : len = 0
          · subst hl0
            refine ⟨[.list (P.cellsOf e) ⟨false, decide (cap = 0), false⟩ []], VL.one (.list _ _ [] a.block a.off 0 cap #[] 0 (0, 0) hok.2 rfl (by simp) (Nat.zero_le _) (fun k => by simpa using k) (fun k => absurd rfl k) (fun k => absurd rfl k) (by simp) (by simp) a.spot (fun k => absurd rfl k)) rfl, ?_⟩
            simp only [Fit, hu]
            exact ⟨false, _, [], by simp, by simp, by simp, by simp, rfl⟩
          · obtain ⟨cs0, ys0, q1, _⟩ := one 0 (by omega)
            obtain ⟨hl, hcl⟩ := cells_spec q1
            obtain ⟨u0, hu0, hc0⟩ := hcl 0 hok.2
            obtain ⟨c, T, fz, g1, g2, g3⟩ := cell_spec hc0
            rw [add_block, add_block] at g1
            have hsp : a.spot = none := by simpa [Addr.add] using g2
            have row : ∀ k, k ≤ len → ∃ yss : List (List AV), yss.length = k ∧ (∀ y ∈ yss, Fit P m e y ∧ y.length = P.cellsOf e) ∧ yss.flatten.length = k * P.cellsOf e ∧ (0 < k → a.off + k * P.cellsOf e ≤ c.size) ∧
                ∀ (j : Nat) (v : AV) (u : Value), yss.flatten[j]? = some v → c[a.off + j]? = some u → VR (memOf w) noMem noEmb v u ∧ u.oneCell' = true := by
              intro k
              induction k with
              | zero => intro _; exact ⟨[], rfl, by simp, by simp, by simp, by simp⟩
              | succ k ihk =>
                intro hk
                obtain ⟨yss, r1, r2, r3, r4, r5⟩ := ihk (by omega)
                obtain ⟨cs', ys, s1, s2, s3, s4⟩ := one k (by omega)
                obtain ⟨hl', hcl'⟩ := cells_spec s1
                have hcells : ∀ j, j < P.cellsOf e → c[a.off + k * P.cellsOf e + j]? = cs'[j]? := fun j hj => by
                  obtain ⟨u, h1, h2⟩ := hcl' j hj
                  obtain ⟨c', T', fz', k1, _, k3⟩ := cell_spec h2
                  rw [add_block, add_block, g1] at k1
                  cases k1
                  rw [add_off, add_off] at k3
                  rw [k3, h1]
                refine ⟨yss ++ [ys], by simp [r1], fun y hy => ?_, by simp [r3, s4, Nat.add_mul], fun _ => ?_, fun j v u hv hu => ?_⟩
                · rcases List.mem_append.1 hy with q | q
                  · exact r2 y q
                  · simp at q; subst q; exact ⟨s3, s4⟩
                · have hlast := hcells (P.cellsOf e - 1) (by omega)
                  rw [List.getElem?_eq_getElem (show P.cellsOf e - 1 < cs'.length by omega)] at hlast
                  have := (Array.getElem?_eq_some_iff.1 hlast).1
                  rw [Nat.add_mul, Nat.one_mul]; omega
                · rw [List.flatten_append, List.getElem?_append, r3] at hv
                  split at hv
                  · exact r5 j v u hv hu
                  · rename_i hj
                    simp only [List.flatten_cons, List.flatten_nil, List.append_nil] at hv
                    have hlt : j - k * P.cellsOf e < P.cellsOf e := by have := (List.getElem?_eq_some_iff.1 hv).1; omega
                    have := hcells _ hlt
                    rw [show a.off + k * P.cellsOf e + (j - k * P.cellsOf e) = a.off + j by omega] at this
                    rw [this] at hu
                    exact s2.2 _ v u hv hu
            obtain ⟨yss, r1, r2, r3, r4, r5⟩ := row len (Nat.le_refl _)
            obtain ⟨ab, ao, asp⟩ := a
            simp only at hsp
            subst hsp
            refine ⟨[.list (P.cellsOf e) ⟨false, decide (cap = len), false⟩ yss.flatten], VL.one (.list _ _ _ ab ao len cap c T fz hok.2 rfl r3 hlc (fun k => by simpa using k) (fun _ => .inl g1) (fun _ => by rw [r3]; exact r4 (by omega)) (fun j v u hv hu => (r5 j v u hv hu).1) (fun j u hj hu => (r5 j (yss.flatten[j]'hj) u (by simp) hu).2) none (fun _ => rfl)) rfl, ?_⟩
            simp only [Fit, hu]
            refine ⟨false, _, yss, by simp, ?_, by omega, r2, rfl⟩
            have : yss.length * P.bytesOf e ≤ (elems.length + rest.length) * P.bytesOf e := Nat.mul_le_mul_right _ (by omega)
            omega
      case struct fs =>
        obtain ⟨ys, n', rfl, rfl, hl, hyl, hys⟩ := DataW.trod_struct hu h
        have hw' : (DataW.weightsEach P (fs.toList.map (·.type)) (ys.map (·.1))).all (· ≤ reachBytes) = true := by simpa [DataW.weights, hu] using hw
        have key : ∀ (fl : List Field) (zs : List (DataW H × List MemPlace)) (o : Nat), fldsOK P (okT P m) (P.cellsOf t) fl o = true → (∀ (i : Nat) (f : Field), fl[i]? = some f → DataW.trod enc P w 0 (fun _ => true) true n' f.type ((cs.drop f.offset).take (P.cellsOf f.type)) = zs[i]?) →
            zs.length = fl.length → (DataW.weightsEach P (fl.map (·.type)) (zs.map (·.1))).all (· ≤ reachBytes) = true →
            ∃ yss : List (List AV), yss.length = fl.length ∧ VL w yss.flatten (cs.drop o) ∧ ∀ (i : Nat) (f : Field) (y : List AV), fl[i]? = some f → yss[i]? = some y → Fit P m f.type y ∧ y.length = P.cellsOf f.type := by
          intro fl
          induction fl with
          | nil =>
            intro zs o hf _ _ _
            simp [fldsOK] at hf
            refine ⟨[], rfl, ?_, by simp⟩
            rw [List.drop_eq_nil_of_le (by omega)]
            exact ⟨rfl, by simp⟩
          | cons f fl ihf =>
            intro zs o hf hz hzl hwz
            have hle := hf
            simp only [fldsOK, Bool.and_eq_true, decide_eq_true_eq] at hf
            obtain ⟨⟨rfl, hg⟩, hrest⟩ := hf
            cases zs with
            | nil => simp at hzl
            | cons z zs =>
              simp only [List.map_cons, DataW.weightsEach, List.all_append, Bool.and_eq_true] at hwz
              obtain ⟨ys1, hV, hF⟩ := ih f.type hg n' _ z (by have := hz 0 f rfl; simpa using this) hwz.1
              obtain ⟨yss, s1, s2, s3⟩ := ihf zs _ hrest (fun i f' hi => by have := hz (i + 1) f' (by simpa using hi); simpa using this) (by simpa using hzl) hwz.2
              have hcl := flds_le hrest
              refine ⟨ys1 :: yss, by simp [s1], ?_, fun i f' y hi hy => ?_⟩
              · have := hV.append s2
                rw [← List.drop_drop, List.take_append_drop] at this
                simpa using this
              · cases i with
                | zero =>
                  simp at hi hy; subst hi; subst hy
                  refine ⟨hF, ?_⟩
                  rw [hV.1, List.length_take, List.length_drop, hl]; omega
                | succ i => exact s3 i f' y (by simpa using hi) (by simpa using hy)
        obtain ⟨yss, s1, s2, s3⟩ := key fs.toList ys 0 hok (fun i f hi => hys i f (by simpa using hi)) (by simpa using hyl) hw'
        refine ⟨yss.flatten, by simpa using s2, ?_⟩
        simp only [Fit, hu]
        exact ⟨yss, by simpa using s1, rfl, fun i f y hi hy => s3 i f y (by simpa using hi) hy⟩
      case array k e =>
        simp only [Bool.and_eq_true, decide_eq_true_eq] at hok
        obtain ⟨ys, n', hx, hl, hyl, hys⟩ := trod_array hu h
        have hw' : (DataW.weightsAll P e (ys.map (·.1))).all (· ≤ reachBytes) = true := by rw [hx] at hw; simpa [DataW.weights, hu] using hw
        have key : ∀ j, j ≤ k → ∃ yss : List (List AV), yss.length = j ∧ (∀ y ∈ yss, Fit P m e y ∧ y.length = P.cellsOf e) ∧ VL w yss.flatten (cs.take (j * P.cellsOf e)) := by
          intro j
          induction j with
          | zero => intro _; exact ⟨[], rfl, by simp, by simp, by simp⟩
          | succ j ihj =>
            intro hj
            obtain ⟨yss, r1, r2, r3⟩ := ihj (by omega)
            obtain ⟨y, hy⟩ : ∃ y, ys[j]? = some y := ⟨ys[j]'(by omega), by simp⟩
            obtain ⟨ys1, hV, hF⟩ := ih e hok.1 n' _ y (by rw [hys j (by omega)]; exact hy) (weightsAll_mem hw' _ (List.mem_map.2 ⟨y, List.mem_of_getElem? hy, rfl⟩))
            have hle : (j + 1) * P.cellsOf e ≤ k * P.cellsOf e := Nat.mul_le_mul_right _ hj
            rw [Nat.add_mul, Nat.one_mul] at hle
            refine ⟨yss ++ [ys1], by simp [r1], fun z hz => ?_, ?_⟩
            · rcases List.mem_append.1 hz with q | q
              · exact r2 z q
              · simp at q; subst q
                refine ⟨hF, ?_⟩
                rw [hV.1, List.length_take, List.length_drop, hl, hok.2]; omega
            · have := r3.append hV
              rw [List.flatten_append, Nat.add_mul, Nat.one_mul, List.take_add]
              simpa using this
        obtain ⟨yss, r1, r2, r3⟩ := key k (Nat.le_refl _)
        refine ⟨yss.flatten, ?_, by simp only [Fit, hu]; exact ⟨yss, r1, r2, rfl⟩⟩
        rw [List.take_of_length_le (by rw [hl, hok.2]; omega)] at r3
        exact r3
end
end Go.Fw

/-
  A law's row, out of a contract of its function: called with whatever fits, it returns true, and turns no block that was there.
-/
namespace Go.Fw
open Go.ChangeShapes Go.WideShapes Go.RowKit
def ArgFit (P : Program) (m : Nat) (t : TypeId) (a : AV) : Prop := match P.underlying t with
  | some (.struct _) => ∃ xs, a = .agg xs ∧ Fit P m t xs
  | some (.array _ _) => ∃ xs, a = .agg xs ∧ Fit P m t xs
  | _ => Fit P m t [a]
def AllFit (P : Program) (m : Nat) : List TypeId → List AV → Prop
  | [], as => as = []
  | t :: ts, as => ∃ a as', as = a :: as' ∧ ArgFit P m t a ∧ AllFit P m ts as'
section
variable {H : Type} {enc : TypeId × Value → H} {P : Program} {w : World}
theorem arg_fit {m : Nat} {t : TypeId} {v : Value} {d : DataW H} {ps : List MemPlace} {r : Reach} {b : Nat} (hok : okT P m t = true) (hval : Value.okWide P w r b t v) (h : DataW.Trod enc P w 0 (fun _ => true) true t v d ps) (hw : (d.weights P t).all (· ≤ reachBytes) = true) :
    ∃ a, VR (memOf w) noMem noEmb a v ∧ ArgFit P m t a := by
  obtain ⟨n, hn⟩ := h
  obtain ⟨xs, hV, hF⟩ := trod_fit m t hok n _ _ hn hw
  have agg : ∀ cs, v = .agg cs → VR (memOf w) noMem noEmb (.agg xs) v := by
    rintro cs rfl
    refine .agg xs cs (by simpa [Value.cells] using hV.1.symm) (fun j x u hx hu => (hV.2 j x u hx (by simpa [Value.cells] using hu)).1) (fun j u hu => ?_)
    have hj : j < xs.length := by have := (Array.getElem?_eq_some_iff.1 hu).1; rw [hV.1]; simpa [Value.cells] using this
    exact (hV.2 j xs[j] u (by simp) (by simpa [Value.cells] using hu)).2
  unfold ArgFit
  unfold Value.okWide at hval
  split
  · rename_i fs hu
    rw [hu] at hval
    obtain ⟨cs, hcs, _⟩ := hval
    exact ⟨_, agg cs hcs, xs, rfl, hF⟩
  · rename_i k e hu
    rw [hu] at hval
    obtain ⟨cs, hcs, _⟩ := hval
    exact ⟨_, agg cs hcs, xs, rfl, hF⟩
  · rename_i h1 h2
    have hc : v.cells.toList = [v] := by
      have hone : v.oneCell' = true := by
        split at hval
        · rename_i hu; exact absurd hu (h1 _)
        · rename_i hu; exact absurd hu (h2 _ _)
        · cases v <;> first | rfl | (exfalso; unfold Cell.okWide at hval; split at hval <;> first | (simp at *; done) | (unfold Cell.ok at hval; split at hval <;> simp_all))
      cases v <;> first | rfl | cases hone
    rw [hc] at hV
    obtain ⟨x, rfl⟩ : ∃ x, xs = [x] := by
      have := hV.1
      match xs, this with
      | [x], _ => exact ⟨x, rfl⟩
    exact ⟨x, (hV.2 0 x v rfl rfl).1, hF⟩
theorem args_fit {m : Nat} : ∀ {ts : List TypeId} {vs : List Value} {ds : List (DataW H)} {ps : List MemPlace}, ts.all (okT P m) = true → (∀ (j : Nat) (t : TypeId) (v : Value), ts[j]? = some t → vs[j]? = some v → ∃ r b, Value.okWide P w r b t v) →
    DataW.TrodAll enc P w 0 (fun _ => true) true ts vs ds ps → (DataW.weightsEach P ts ds).all (· ≤ reachBytes) = true →
    ∃ as, as.length = vs.length ∧ (∀ (j : Nat) (a : AV) (v : Value), as[j]? = some a → vs[j]? = some v → VR (memOf w) noMem noEmb a v) ∧ AllFit P m ts as := by
  intro ts
  induction ts with
  | nil =>
    intro vs ds ps _ _ hA _
    obtain ⟨rfl, rfl, rfl⟩ := trodAll_nil hA
    exact ⟨[], rfl, by simp, rfl⟩
  | cons t ts ih =>
    intro vs ds ps hok hval hA hw
    obtain ⟨v, vs', d, ds', p, q, rfl, rfl, rfl, h1, h2⟩ := trodAll_cons hA
    simp only [List.all_cons, Bool.and_eq_true] at hok
    simp only [DataW.weightsEach, List.all_append, Bool.and_eq_true] at hw
    obtain ⟨r, b, hv⟩ := hval 0 t v rfl rfl
    obtain ⟨a, g1, g2⟩ := arg_fit hok.1 hv h1 hw.1
    obtain ⟨as, k1, k2, k3⟩ := ih hok.2 (fun j t' v' ht hv => hval (j + 1) t' v' (by simpa using ht) (by simpa using hv)) h2 hw.2
    refine ⟨a :: as, by simp [k1], fun j x u hx hu => ?_, a, as, rfl, g2, k3⟩
    cases j with
    | zero => simp at hx hu; subst hx; subst hu; exact g1
    | succ j => exact k2 j x u (by simpa using hx) (by simpa using hu)
theorem law_calls {f : FuncId} {args : Array Value} {as : List AV} (hok : okFn P f = true) (hs : FSpec P f as [] (.bool true) []) (hl : as.length = args.toList.length) (hV : ∀ (j : Nat) (a : AV) (v : Value), as[j]? = some a → args.toList[j]? = some v → VR (memOf w) noMem noEmb a v) :
    Calls P f args w fun e w' => e = .returned (.bool true) ∧ Below w.heap.size w w' := by
  have hH : Holds (memOf w) noMem noEmb [] w := ⟨fun r o h => h, fun r o h => (by cases h), fun i b h => (by simp at h), fun i j b c r p q h => (by simp at h), fun i b r p h => (by simp at h), fun i p h => (by cases h), fun r o h => rfl⟩
  have hc := hs (memOf w) noMem noMem noEmb w args (by simpa using hl.symm) (fun j a v ha hv => hV j a v ha (by simpa using hv)) hH (Mem.le_refl _)
  rcases hc with ⟨_, hc⟩ | ⟨u, w', h1, _⟩
  rotate_left
  · rw [callFunc_run hok] at h1; cases h1
  refine Calls.mono hc ?_
  rintro e w' ⟨u, ro', Φ', rfl, g1, g2, g3, g4, g5⟩
  cases g1
  refine ⟨rfl, g5.os, g5.tape, g5.output, g5.size, fun k hk => ?_⟩
  have hk' : w.heap[k]? = some w.heap[k] := by simp [hk]
  rw [hk']
  exact g2.hro k _ (g3 k _ hk')
theorem trodAll_back (hl : laidOutB P = true) {w' : World} (hb : Below w.heap.size w w') : ∀ {ts : List TypeId} {vs : List Value} {ds : List (DataW H)} {ps : List MemPlace}, ts.all (fun t => P.readableRec t && decide (t < P.types.size)) = true →
    DataW.TrodAll enc P w 0 (fun _ => true) true ts vs ds ps → DataW.TrodAll enc P w' 0 (fun b => decide (b < w.heap.size)) true ts vs ds ps := by
  intro ts
  induction ts with
  | nil =>
    intro vs ds ps _ hA
    obtain ⟨rfl, rfl, rfl⟩ := trodAll_nil hA
    exact rfl
  | cons t ts ih =>
    intro vs ds ps hr hA
    obtain ⟨v, vs', d, ds', p, q, rfl, rfl, rfl, h1, h2⟩ := trodAll_cons hA
    simp only [List.all_cons, Bool.and_eq_true, decide_eq_true_eq] at hr
    refine ⟨p, q, Below.trod hl hr.1.1 hr.1.2 h1 hb (fun x hx => ?_), ih hr.2 h2, rfl⟩
    obtain ⟨n, hn⟩ := h1
    exact DataW.trod_lt n _ _ _ hn x hx
theorem trodAll_len : ∀ {ts : List TypeId} {vs : List Value} {ds : List (DataW H)} {ps : List MemPlace} {sp : Nat → Bool} {b : Nat} {hd : Bool}, DataW.TrodAll enc P w b sp hd ts vs ds ps → ds.length = ts.length
  | [], vs, ds, ps, sp, b, hd, h => by obtain ⟨rfl, rfl, rfl⟩ := trodAll_nil h; rfl
  | t :: ts, vs, ds, ps, sp, b, hd, h => by
    obtain ⟨v, vs', d, ds', p, q, rfl, rfl, rfl, h1, h2⟩ := trodAll_cons h
    simp [trodAll_len h2]
end
/-- The row of a law. -/
theorem law_lifted {C : Checked} {os : Os} {f : FuncId} {fn : Func} {s : ChangeSpec} {rt : TypeId} {m : Nat} {H : Type} {enc : TypeId × Value → H} (own : ownKnob C.prog.godebug = none) (started : os.Started) (noInit : C.prog.inits.idxOf? f = none) (hfn : C.prog.funcs[f]? = some fn)
    (witness : ∃ (w : World) (tape : Tape) (i : Input), w.os = os ∧ (w.forCall tape i).Shaped C.prog ∧ i.vars = [] ∧ Input.okWide C.prog (w.forCall tape i) .any w.heap.size f i ∧
      s.pre6 enc C.prog fn [] false (w.forCall tape i).memory i.args ∧ Assume.holds {} C.prog (lone (Frame.enter C.prog f i.args .normal) [] (w.forCall tape i)))
    (laid : laidOutB C.prog = true) (hv : s.vars = []) (hsf : ∀ ds : List (DataW H), ds.length = fn.params.toList.length → s.fn H ds = { results := [.lit (.bool true)], args := ds })
    (hts : fn.params.toList.all (okT C.prog m) = true) (hread : fn.params.toList.all (fun t => C.prog.readableRec t && decide (t < C.prog.types.size)) = true) (hrt : fn.resultTypes = #[rt]) (hrb : C.prog.underlying rt = some .bool)
    (hok : okFn C.prog f = true) (spec : ∀ as, AllFit C.prog m fn.params.toList as → FSpec C.prog f as [] (.bool true) []) :
    ReturnsInHanded {} C os f .any (s.pre6 enc C.prog fn [] false) (s.post enc C.prog fn false true false false) := by
  refine returnsInHanded_of_change_sized own started noInit hfn witness ?_
  intro W base args ds gs before hval hW hcnd hsz _
  have hW' := hW
  obtain ⟨p, q, hA, hV, rfl, hfz, hnd⟩ := hW
  rw [hv] at hV
  obtain ⟨rfl, rfl⟩ := trodVars_none hV
  have hvt : s.plain.varTypes C.prog = [] := by unfold DataSpec.varTypes; simp [ChangeSpec.plain, hv]
  rw [hvt, List.append_nil, List.append_nil] at hsz
  obtain ⟨as, k1, k2, k3⟩ := args_fit hts (fun j t v ht hv' => ⟨.any, base, hval j t v (by simpa using ht) (by simpa using hv')⟩) hA hsz
  refine (law_calls hok (spec as k3) k1 k2).mono fun e W' ⟨he, bel⟩ => ?_
  subst he
  have hlen := trodAll_len hA
  refine ⟨_, rfl, ds, [], _, [], p, [], hW', ?_, ?_, ?_, ?_, fun h => by cases h⟩
  · rw [List.append_nil, hsf ds hlen, hrt]
    exact trodAll_mk1 (shut_bool hrb _)
  · rw [List.append_nil, hsf ds hlen]
    exact trodAll_back laid bel hread hA
  · rw [hv, List.append_nil, hsf ds hlen]; exact rfl
  · exact bel.frame _
end Go.Fw

/-
  What arguments of laws are, read as lists and numbers.
-/
namespace Go.Fw
section
variable {P : Program} {n : Nat} {t e : TypeId} {a : AV} {xs : List AV}
theorem fit_u8 (h : P.underlying t = some (.int .u8)) (hf : Fit P (n + 1) t xs) : ∃ b : UInt8, xs = [bv b] := by
  simp only [Fit, h] at hf
  obtain ⟨m, hm, rfl⟩ := hf
  have hm : 0 ≤ m ∧ m < 256 := by
    simp [Lit.wf, IntKind.min, IntKind.max, IntKind.signed, IntKind.bits] at hm
    omega
  refine ⟨UInt8.ofNat m.toNat, ?_⟩
  simp only [bv, List.cons.injEq, AV.int.injEq, true_and, and_true]
  rw [UInt8.toNat_ofNat_of_lt' (by show m.toNat < 256; omega)]
  omega
theorem fit_int {k : IntKind} (h : P.underlying t = some (.int k)) (hf : Fit P (n + 1) t xs) : ∃ m : Int, k.min ≤ m ∧ m ≤ k.max ∧ xs = [.int k m] := by
  simp only [Fit, h] at hf
  obtain ⟨m, hm, rfl⟩ := hf
  simp [Lit.wf] at hm
  exact ⟨m, hm.1, hm.2, rfl⟩
theorem fit_bool (h : P.underlying t = some .bool) (hf : Fit P (n + 1) t xs) : ∃ b : Bool, xs = [.bool b] := by
  simp only [Fit, h] at hf
  exact hf
theorem flat_of {α : Type} {enc : α → List AV} : ∀ {yss : List (List AV)}, (∀ y ∈ yss, ∃ x, y = enc x) → ∃ l : List α, yss.flatten = l.flatMap enc ∧ l.length = yss.length
  | [], _ => ⟨[], rfl, rfl⟩
  | y :: yss, h => by
    obtain ⟨x, rfl⟩ := h y (by simp)
    obtain ⟨l, h1, h2⟩ := flat_of (yss := yss) fun z hz => h z (by simp [hz])
    exact ⟨x :: l, by simp [h1], by simp [h2]⟩
/-- A slice, by what its elements are. -/
theorem fit_slice {α : Type} (enc : α → List AV) (h : P.underlying t = some (.slice e)) (hd : ∀ y, Fit P n e y → ∃ x, y = enc x) (hf : Fit P (n + 1) t [a]) :
    ∃ (nl full : Bool) (l : List α), a = .list (P.cellsOf e) ⟨nl, full, false⟩ (l.flatMap enc) ∧ l.length * P.bytesOf e ≤ 140737488351232 := by
  simp only [Fit, h] at hf
  obtain ⟨nl, full, yss, _, h2, h3, h4, h5⟩ := hf
  obtain ⟨l, g1, g2⟩ := flat_of (enc := enc) (yss := yss) fun y hy => hd y (h4 y hy).1
  exact ⟨nl, full, l, by rw [← g1]; simpa using h5, by rw [g2]; exact h2⟩
theorem flatMap_bv (l : List UInt8) : l.flatMap (fun b => [bv b]) = l.map bv := by
  induction l with
  | nil => rfl
  | cons x l ih => simp [ih]
theorem fit_bytes (h : P.underlying t = some (.slice e)) (h8 : P.underlying e = some (.int .u8)) (hc : P.cellsOf e = 1) (hb : P.bytesOf e = 1) (hf : Fit P (n + 2) t [a]) : ∃ (nl full : Bool) (l : List UInt8), a = .list 1 ⟨nl, full, false⟩ (l.map bv) ∧ l.length < 2 ^ 47 := by
  obtain ⟨nl, full, l, h1, h2⟩ := fit_slice (fun b => [bv b]) h (fun y hy => fit_u8 h8 hy) hf
  rw [flatMap_bv, hc] at h1
  rw [hb] at h2
  exact ⟨nl, full, l, h1, by omega⟩
theorem arg_one (h : (match P.underlying t with | some (.struct _) => false | some (.array _ _) => false | _ => true) = true) {m : Nat} (hf : ArgFit P m t a) : Fit P m t [a] := by
  unfold ArgFit at hf
  split at hf <;> simp_all
theorem arg_bytes (h : P.underlying t = some (.slice e)) (h8 : P.underlying e = some (.int .u8)) (hc : P.cellsOf e = 1) (hb : P.bytesOf e = 1) (hf : ArgFit P (n + 2) t a) : ∃ (nl full : Bool) (l : List UInt8), a = .list 1 ⟨nl, full, false⟩ (l.map bv) ∧ l.length < 2 ^ 47 :=
  fit_bytes h h8 hc hb (arg_one (by rw [h]) hf)
theorem arg_u8 (h : P.underlying t = some (.int .u8)) (hf : ArgFit P (n + 1) t a) : ∃ b : UInt8, a = bv b := by
  obtain ⟨b, hb⟩ := fit_u8 h (arg_one (by rw [h]) hf)
  exact ⟨b, by simpa using hb⟩
theorem arg_int {k : IntKind} (h : P.underlying t = some (.int k)) (hf : ArgFit P (n + 1) t a) : ∃ m : Int, k.min ≤ m ∧ m ≤ k.max ∧ a = .int k m := by
  obtain ⟨m, h1, h2, h3⟩ := fit_int h (arg_one (by rw [h]) hf)
  exact ⟨m, h1, h2, by simpa using h3⟩
theorem arg_slice {α : Type} (enc : α → List AV) (h : P.underlying t = some (.slice e)) (hd : ∀ y, Fit P n e y → ∃ x, y = enc x) (hf : ArgFit P (n + 1) t a) :
    ∃ (nl full : Bool) (l : List α), a = .list (P.cellsOf e) ⟨nl, full, false⟩ (l.flatMap enc) ∧ l.length * P.bytesOf e ≤ 140737488351232 := fit_slice enc h hd (arg_one (by rw [h]) hf)
theorem all_nil {m : Nat} {as : List AV} (h : AllFit P m [] as) : as = [] := h
theorem all_cons {m : Nat} {ts : List TypeId} {as : List AV} (h : AllFit P m (t :: ts) as) : ∃ a as', as = a :: as' ∧ ArgFit P m t a ∧ AllFit P m ts as' := h
def FitFs (P : Program) (n : Nat) : List TypeId → List AV → Prop
  | [], xs => xs = []
  | t :: ts, xs => ∃ a b, xs = a ++ b ∧ Fit P n t a ∧ FitFs P n ts b
theorem fitFs_of : ∀ {ts : List TypeId} {yss : List (List AV)}, yss.length = ts.length → (∀ (i : Nat) (t : TypeId) (y : List AV), ts[i]? = some t → yss[i]? = some y → Fit P n t y) → FitFs P n ts yss.flatten
  | [], [], _, _ => rfl
  | t :: ts, y :: yss, hl, h => ⟨y, yss.flatten, rfl, h 0 t y rfl rfl, fitFs_of (by simpa using hl) fun i t' y' ht hy => h (i + 1) t' y' (by simpa using ht) (by simpa using hy)⟩
  | [], y :: yss, hl, _ => by simp at hl
  | t :: ts, [], hl, _ => by simp at hl
theorem fit_struct {fs : Array Field} (h : P.underlying t = some (.struct fs)) (hf : Fit P (n + 1) t xs) : FitFs P n (fs.toList.map (·.type)) xs := by
  simp only [Fit, h] at hf
  obtain ⟨yss, h1, rfl, h2⟩ := hf
  refine fitFs_of (by simpa using h1) fun i t' y ht hy => ?_
  simp only [List.getElem?_map, Option.map_eq_some_iff] at ht
  obtain ⟨f, hf, rfl⟩ := ht
  exact (h2 i f y (by simpa using hf) hy).1
theorem fit_array {m : Nat} (h : P.underlying t = some (.array m e)) (hf : Fit P (n + 1) t xs) : ∃ yss : List (List AV), yss.length = m ∧ (∀ y ∈ yss, Fit P n e y) ∧ xs = yss.flatten := by
  simp only [Fit, h] at hf
  obtain ⟨yss, h1, h2, h3⟩ := hf
  exact ⟨yss, h1, fun y hy => (h2 y hy).1, h3⟩
theorem arg_struct {fs : Array Field} {m : Nat} (h : P.underlying t = some (.struct fs)) (hf : ArgFit P (m + 1) t a) : ∃ xs, a = .agg xs ∧ FitFs P m (fs.toList.map (·.type)) xs := by
  simp only [ArgFit, h] at hf
  obtain ⟨xs, rfl, hf⟩ := hf
  exact ⟨xs, rfl, fit_struct h hf⟩
theorem arg_array {k m : Nat} (h : P.underlying t = some (.array k e)) (hf : ArgFit P (m + 1) t a) : ∃ yss : List (List AV), a = .agg yss.flatten ∧ yss.length = k ∧ (∀ y ∈ yss, Fit P m e y) := by
  simp only [ArgFit, h] at hf
  obtain ⟨xs, rfl, hf⟩ := hf
  obtain ⟨yss, h1, h2, rfl⟩ := fit_array h hf
  exact ⟨yss, rfl, h1, h2⟩
theorem fit_one {t : TypeId} (h : (match P.underlying t with | some (.struct _) => false | some (.array _ _) => false | _ => true) = true) {m : Nat} (hf : Fit P (m + 1) t xs) : ∃ a, xs = [a] := by
  simp only [Fit] at hf
  split at hf
  · obtain ⟨b, rfl⟩ := hf; exact ⟨_, rfl⟩
  · obtain ⟨b, _, rfl⟩ := hf; exact ⟨_, rfl⟩
  · obtain ⟨b, _, rfl⟩ := hf; exact ⟨_, rfl⟩
  · rcases hf with rfl | ⟨ys, _, _, rfl⟩ <;> exact ⟨_, rfl⟩
  · obtain ⟨_, _, _, _, _, _, _, rfl⟩ := hf; exact ⟨_, rfl⟩
  · rename_i q; rw [q] at h; cases h
  · rename_i q; rw [q] at h; cases h
  · exact hf.elim
end
end Go.Fw

/-
  Functions that make a map of constants, and yield it.
-/
namespace Go.Fw

def intsC : List AV → Option (List (IntKind × Int))
  | [] => some []
  | .int k n :: l => (intsC l).map ((k, n) :: ·)
  | _ :: _ => none
def toCV : AV → Option CV
  | .int k n => some (.int k n)
  | .agg xs => (intsC xs).map .ints
  | .func (.func f) [] [] => some (.func f)
  | _ => none
def keyC : Operand → Option (IntKind × Int)
  | .const (.int k n) => some (k, n)
  | _ => none
def mapTy (P : Program) (t : TypeId) : Bool := match P.underlying t with
  | some (.map k _) => match P.underlying k with
    | some (.int _) => true
    | _ => false
  | _ => false
def isM (ms : List Nat) : Operand → Bool
  | .tmp s => ms.contains s
  | _ => false
/-- The rest of a map's making: what its temporaries hold, which of them hold the map, and what is in it. -/
def bldL (P : Program) (n : Nat) (k : IntKind) : List Oper → Env → List Nat → List (Int × CV) → Option (List Nat × List (Int × CV))
  | [], _, ms, kvs => some (ms, kvs)
  | o :: l, e, ms, kvs => if o.guard.isNone = false ∨ dstOk n o.dst = false then none else match o.op with
    | .insert t m kx x => match keyC kx, ((lowO x).bind e.opd).bind toCV with
      | some (k', i), some c => if isM ms m = true ∧ k' = k ∧ lookC kvs i = none ∧ mapTy P t = true ∧ o.dst = none then bldL P n k l e ms (kvs ++ [(i, c)]) else none
      | _, _ => none
    | .move x | .assign x => if isM ms x = true then (match o.dst with
        | some d => bldL P n k l (e.del d) (d :: ms) kvs
        | none => none) else none
    | .build t ps => match lowOp P false (.build t ps) with
      | some (.build z qs) => match e.parts qs with
        | some vs => match fillA z vs with
          | some cs => bldL P n k l (e.setO o.dst (.agg cs)) (match o.dst with | some d => ms.filter (· ≠ d) | none => ms) kvs
          | none => none
        | none => none
      | _ => none
    | _ => none
def nilOps : List Oper → Bool
  | [] => true
  | o :: l => o.guard.isNone && (match o.op with | .assign (.const (.map none)) => true | _ => false) && nilOps l
def bldFn (P : Program) (f : FuncId) (k : IntKind) : Option (List (Int × CV)) := match P.funcs[f]? with
  | some fn => if fn.name == "runtime.NumGoroutine" then none else match fn.body with
    | some (.seq (.region _ ops0 false) (.seq (.region _ ops1 false) .ret)) => if nilOps ops0.toList = false then none else match ops1.toList with
      | o :: l => match o.op, o.dst, o.guard with
        | .makeMap _ none, some d, none => if decide (d < fn.ntmps) = false then none else match bldL P fn.ntmps k l [] [d] [], fn.results.toList with
          | some (ms, kvs), [.tmp t] => if ms.contains t = true then some kvs else none
          | _, _ => none
        | _, _, _ => none
      | [] => none
    | _ => none
  | none => none

section
variable {P : Program} {ro bo fr : Mem} {Φ : Emb} {e : Env} {H : Heap} {a : Act} {w w' : World}
theorem intsC_spec : ∀ {xs : List AV} {l : List (IntKind × Int)}, intsC xs = some l → xs = l.map fun (k, n) => AV.int k n
  | [], l, h => by simp [intsC] at h; subst h; rfl
  | x :: xs, l, h => by
    cases x <;> simp only [intsC] at h <;> try (cases h; done)
    obtain ⟨r, h1, rfl⟩ := map_some h
    simp [intsC_spec h1]
theorem toCV_spec {v : AV} {c : CV} (h : toCV v = some c) : v = c.av := by
  unfold toCV at h
  split at h
  · cases h; rfl
  · obtain ⟨l, h1, rfl⟩ := map_some h
    simp [CV.av, intsC_spec h1]
  · cases h; rfl
  · cases h
theorem CV.inv {c : CV} {u : Value} (h : VR ro bo Φ c.av u) : u = c.val := by
  cases c with
  | int k n => exact h.int_inv
  | ints l =>
    cases h with
    | agg _ cs h1 hx ho =>
      simp only [CV.val]
      congr 1
      apply Array.ext
      · simpa using h1
      · intro i g1 g2
        have hi : i < l.length := by simpa using g2
        have := hx i (.int l[i].1 l[i].2) cs[i] (by simp [hi]) (by simp [g1])
        simpa using this.int_inv
  | func f =>
    cases h with
    | func _ _ _ us vs h1 h2 =>
      have e1 : us = #[] := by simpa using h1
      have e2 : vs = #[] := by simpa using h2
      subst e1; subst e2; rfl
/-- A map that is being made: it lies in block 'r'. -/
structure Bld (n : Nat) (ro bo fr : Mem) (Φ : Emb) (k : IntKind) (r : Nat) (e : Env) (ms : List Nat) (kvs : List (Int × CV)) (H : Heap) (a : Act) (w : World) : Prop where
  st : St n ro bo Φ e a
  ms : ∀ t ∈ ms, a.tmps[t]? = some (.map (some r))
  obj : ∃ es clock, Holds ro (fr.put r (.map es clock)) Φ H w ∧ es.toList.map (fun e => (e.key, e.val)) = kvs.map fun (i, c) => (Value.int k i, c.val)
  fr : fr r = none
theorem lookC_none {k : IntKind} {i : Int} {kk : IntKind} {es : List MapEntry} {kvs : List (Int × CV)} (he : es.map (fun e => (e.key, e.val)) = kvs.map fun (i, c) => (Value.int k i, c.val)) (h : lookC kvs i = none) (j : Nat) : Instr.findNow (.int kk) (.int k i) es j = some none := by
  obtain ⟨q, g1, g2⟩ := findNow_look (kk := kk) (n := i) (i := j) he
  cases q with
  | none => exact g1
  | some q =>
    obtain ⟨q1, q2⟩ := q
    obtain ⟨c, g3, _⟩ := g2
    rw [h] at g3; cases g3
theorem put_put (m : Mem) (r : Nat) (o o' : Obj) : (m.put r o).put r o' = m.put r o' := by
  funext i; simp only [Mem.put]; split <;> rfl
theorem Bld.roN {n : Nat} {k : IntKind} {r : Nat} {ms : List Nat} {kvs : List (Int × CV)} (h : Bld n ro bo fr Φ k r e ms kvs H a w) : ro r = none := by
  obtain ⟨es, clock, h1, _⟩ := h.obj
  cases hr : ro r with
  | none => rfl
  | some o => have := h1.disj r o hr; simp [Mem.put] at this
theorem Holds.setFr {r : Nat} {o o' : Obj} (hH : Holds ro (fr.put r o) Φ H w) (h1 : w'.heap[r]? = some o') (h2 : ∀ r', r' ≠ r → w'.heap[r']? = w.heap[r']?) : Holds ro (fr.put r o') Φ H w' := by
  have hr : ∀ r' x, ro r' = some x → r' ≠ r := fun r' x h q => by subst q; have := hH.disj r' x h; simp [Mem.put] at this
  have hn : ∀ r', (fr.put r o) r' = none → r' ≠ r ∧ fr r' = none := fun r' h => by
    simp only [Mem.put] at h
    split at h
    · cases h
    · exact ⟨‹_›, h⟩
  refine ⟨fun r' x h => ?_, fun r' x h => ?_, fun i b h => ?_, hH.inj, fun i b r' p hi hp => ?_, hH.dom, fun r' x h => ?_⟩
  · rw [h2 r' (hr r' x h)]; exact hH.hro r' x h
  · simp only [Mem.put] at h
    split at h
    · rename_i q; subst q; cases h; exact h1
    · rename_i q
      rw [h2 r' q]
      exact hH.hfr r' x (by simp only [Mem.put]; rw [if_neg q]; exact h)
  · rcases hH.own i b h with h' | ⟨r', o1, s1, g1, g2⟩
    · exact .inl h'
    · have := (hn r' (hH.sep i b r' _ h g1).2).1
      exact .inr ⟨r', o1, s1, g1, g2.mono (Mem.le_refl _) (Emb.le_refl _) (h2 r' this)⟩
  · obtain ⟨g1, g2⟩ := hH.sep i b r' p hi hp
    obtain ⟨g3, g4⟩ := hn r' g2
    exact ⟨g1, by simp only [Mem.put]; rw [if_neg g3]; exact g4⟩
  · have q := hr r' x h
    simp only [Mem.put]
    rw [if_neg q]
    exact (hn r' (hH.disj r' x h)).2
theorem St.del {n : Nat} (h : St n ro bo Φ e a) {d : Nat} (hd : d < n) (u : Value) : St n ro bo Φ (e.del d) (a.put (some d) u) := by
  refine ⟨by simp [Act.put, h.size], by simpa [Act.put] using h.defers, fun t x ht => ?_⟩
  rw [Env.get_del] at ht
  split at ht
  · cases ht
  · rename_i hne
    obtain ⟨u', h1, h2⟩ := h.env t x ht
    exact ⟨u', by simp only [Act.put]; rw [Array.getElem?_setIfInBounds_ne (fun q => hne (by rw [q]))]; exact h1, h2⟩
theorem bld_list {n r : Nat} {k : IntKind} {ops : Array Oper} (hb : Mem.le bo fr) {Q : Exit → Act → World → Prop} {ms' : List Nat} {kvs' : List (Int × CV)} : ∀ (l : List Oper) (e : Env) (ms : List Nat) (kvs : List (Int × CV)) (ro : Mem) (a : Act) (w : World),
    bldL P n k l e ms kvs = some (ms', kvs') → Bld n ro bo fr Φ k r e ms kvs H a w → (∀ a' w' e' ro', Bld n ro' bo fr Φ k r e' ms' kvs' H a' w' → Mem.le ro ro' → WExt w w' → Q .normal a' w') → wpList P ops Q l a w := by
  intro l
  induction l with
  | nil =>
    intro e ms kvs ro a w hl hB hQ
    simp only [bldL, Option.some.injEq, Prod.mk.injEq] at hl
    obtain ⟨rfl, rfl⟩ := hl
    exact hQ a w e ro hB (Mem.le_refl _) (WExt.refl _)
  | cons o l ih =>
    intro e ms kvs ro a w hl hB hQ
    simp only [bldL] at hl
    split at hl
    · cases hl
    rename_i hgd
    have hg : o.guard = none := by
      cases hx : o.guard with
      | none => rfl
      | some _ => exact absurd (.inl (by simp [hx])) hgd
    have hd : dstOk n o.dst = true := by
      cases hx : dstOk n o.dst with
      | true => rfl
      | false => exact absurd (.inr hx) hgd
    obtain ⟨es, clock, hH, hes⟩ := hB.obj
    have hlt : r < w.heap.size := (Array.getElem?_eq_some_iff.1 (hH.hfr r (.map es clock) (by simp [Mem.put]))).1
    have hat : w.heap[r]? = some (.map es clock) := hH.hfr r (.map es clock) (by simp [Mem.put])
    have hbo : ∀ o', Mem.le bo (fr.put r o') := fun o' r' x h => by
      have := hb r' x h
      simp only [Mem.put]
      rw [if_neg (fun q => by subst q; rw [hB.fr] at this; cases this)]; exact this
    have mvs : ∀ {x : Operand}, (execOp a.eval o).run P w = .ok (.value (a.eval x)) w → isM ms x = true → (match o.dst with | some d => bldL P n k l (e.del d) (d :: ms) kvs | none => none) = some (ms', kvs') → wpList P ops Q (o :: l) a w := by
      intro x he hx hl
      cases hdd : o.dst with
      | none => rw [hdd] at hl; cases hl
      | some d =>
        rw [hdd] at hl hd
        simp only [dstOk, decide_eq_true_eq] at hd
        refine wpList_plain hg fun K hK => ?_
        unfold Oper.wp
        rw [he, Oper.upon_value, hdd]
        cases x <;> simp only [isM] at hx <;> try (cases hx; done)
        rename_i s
        have hs := hB.ms s (by simpa using hx)
        refine hK _ _ (ih _ _ _ ro _ w hl ⟨hB.st.del hd _, fun t ht => ?_, ⟨es, clock, hH, hes⟩, hB.fr⟩ hQ)
        have hv : a.eval (.tmp s) = .map (some r) := by simp [Act.eval, hs]
        simp only [Act.put, hv]
        by_cases htd : d = t
        · subst htd
          rw [Array.getElem?_setIfInBounds_self_of_lt (by rw [hB.st.size]; exact hd)]
        · rw [Array.getElem?_setIfInBounds_ne htd]
          exact hB.ms t ((List.mem_cons.1 ht).resolve_left (fun q => htd q.symm))
    cases hop : o.op <;> rw [hop] at hl <;> try (cases hl; done)
    case move x =>
      simp only at hl
      split at hl
      · rename_i hx; exact mvs (by simp [execOp, hop]) hx hl
      · cases hl
    case assign x =>
      simp only at hl
      split at hl
      · rename_i hx; exact mvs (by simp [execOp, hop]) hx hl
      · cases hl
    case build t ps =>
      simp only at hl
      split at hl
      · rename_i z qs hlow
        split at hl
        · rename_i vs hvs
          split at hl
          · rename_i cs hcs
            refine wpList_plain hg fun K hK => ?_
            obtain ⟨v, u, ro', w', rfl, g2, g3, g4, g5, g6⟩ := ev_sound (io := .build z qs) (K := fun v => v = .agg cs) (by rw [hop]; exact hlow) rfl hB.st.env hH (hbo _) ⟨vs, cs, hvs, hcs, rfl⟩
            unfold Oper.wp
            rw [g2, Oper.upon_value]
            refine hK _ _ (ih _ _ _ ro' _ w' hl ⟨(hB.st.mono g5 (Emb.le_refl _)).put hd g3, fun t ht => ?_, ⟨es, clock, g4, hes⟩, hB.fr⟩ fun a2 w2 e2 ro2 k1 k2 k3 => hQ a2 w2 e2 ro2 k1 (Mem.le_trans g5 k2) (g6.trans k3))
            cases hdd : o.dst with
            | none => rw [hdd] at ht; exact hB.ms t ht
            | some d =>
              rw [hdd] at ht
              simp only [List.mem_filter, decide_eq_true_eq] at ht
              simp only [Act.put]
              rw [Array.getElem?_setIfInBounds_ne (Ne.symm ht.2)]
              exact hB.ms t ht.1
          · cases hl
        · cases hl
      · cases hl
    case insert t m kx x =>
      simp only at hl
      split at hl
      · rename_i k' i c hk hc
        split at hl
        · rename_i hcond
          obtain ⟨hm, rfl, hnone, hty, hdst⟩ := hcond
          unfold mapTy at hty
          split at hty
          · rename_i kt el hT
            split at hty
            · rename_i kk hkt
              cases kx <;> simp only [keyC] at hk <;> try (cases hk; done)
              rename_i cv
              cases cv <;> simp only at hk <;> try (cases hk; done)
              simp only [Option.some.injEq, Prod.mk.injEq] at hk
              obtain ⟨rfl, rfl⟩ := hk
              rename_i ck ci
              cases m <;> simp only [isM] at hm <;> try (cases hm; done)
              rename_i s
              have hs := hB.ms s (by simpa using hm)
              cases hy : lowO x with
              | none => rw [hy] at hc; cases hc
              | some y =>
                rw [hy] at hc
                simp only [Option.bind_some] at hc
                cases hv : e.opd y with
                | none => rw [hv] at hc; cases hc
                | some v =>
                  rw [hv] at hc
                  simp only [Option.bind_some] at hc
                  have hcv := toCV_spec hc
                  subst hcv
                  have hx : a.eval x = c.val := CV.inv (opd_sound hB.st.env hy hv)
                  have hme : a.eval (.tmp s) = .map (some r) := by simp [Act.eval, hs]
                  have hf := lookC_none (kk := kk) hes hnone 0
                  have hck : (Instr.checkKey false 10000 kt (.int ck ci)).run P w = .ok () w := by
                    have : ∀ m, (Instr.checkKey false (m + 1) kt (.int ck ci)).run P w = .ok () w := fun m => by
                      simp [Instr.checkKey, run_underlying hkt]
                    exact this 9999
                  have hfk : (Instr.findKey kt (.int ck ci) es.toList).run P w = .ok none w := by
                    simp [Instr.findKey, run_underlying hkt, hf]
                  have hget : (getObj r).run P w = .ok (.map es clock) w := by simp only [getObj, Sem.run, hat]
                  have hrun : (execOp a.eval o).run P w = .ok .skip { w with heap := w.heap.setIfInBounds r (.map (es.push { key := .int ck ci, val := c.val, born := clock }) (clock + 1)) } := by
                    simp only [execOp, hop, hme, hx]
                    have hce : a.eval (.const (.int ck ci)) = .int ck ci := rfl
                    rw [hce]
                    simp [Instr.mapUpdate, run_underlying hT, hget, hck, hfk, MapKept.run_setObj_map _ hat]
                  have hext : WExt w { w with heap := w.heap.setIfInBounds r (.map (es.push { key := .int ck ci, val := c.val, born := clock }) (clock + 1)) } := ⟨rfl, rfl, rfl, by simp⟩
                  refine wpList_plain hg fun K hK => ?_
                  unfold Oper.wp
                  rw [hrun, Oper.upon_skip, hdst]
                  refine hK _ _ (ih _ _ _ ro _ _ hl ⟨hB.st, hB.ms, ⟨es.push { key := .int ck ci, val := c.val, born := clock }, clock + 1, hH.setFr ?_ ?_, ?_⟩, hB.fr⟩ fun a2 w2 e2 ro2 k1 k2 k3 => hQ a2 w2 e2 ro2 k1 k2 (hext.trans k3))
                  · simp [hlt]
                  · intro r' hr'
                    simp only
                    rw [Array.getElem?_setIfInBounds_ne (Ne.symm hr')]
                  · simp [hes]
            · cases hty
          · cases hty
        · cases hl
      · cases hl
theorem nil_list {n : Nat} {ops : Array Oper} {Q : Exit → Act → World → Prop} : ∀ (l : List Oper) (a : Act), nilOps l = true → a.tmps.size = n → a.defers = [] → (∀ a' : Act, a'.tmps.size = n → a'.defers = [] → Q .normal a' w) → wpList P ops Q l a w := by
  intro l
  induction l with
  | nil => intro a _ h1 h2 hQ; exact hQ a h1 h2
  | cons o l ih =>
    intro a hl h1 h2 hQ
    simp only [nilOps, Bool.and_eq_true] at hl
    obtain ⟨⟨hg, ho⟩, hl⟩ := hl
    refine wpList_plain (by simpa using hg) fun K hK => ?_
    split at ho
    · rename_i hop
      unfold Oper.wp
      rw [show (execOp a.eval o).run P w = .ok (.value (.map none)) w by simp [execOp, hop, Act.eval], Oper.upon_value]
      refine hK _ _ (ih _ hl ?_ ?_ hQ)
      · cases o.dst <;> simp [Act.put, h1]
      · cases o.dst <;> simpa [Act.put] using h2
    · cases ho
theorem Mem.put_le {m : Mem} {r : Nat} {o : Obj} (h : m r = none) : Mem.le m (m.put r o) := fun r' x hx => by
  simp only [Mem.put]
  rw [if_neg (fun q => by subst q; rw [h] at hx; cases hx)]; exact hx
/-- A function that makes a map of constants, and yields it. -/
theorem FSpec.of_map {f : FuncId} {k : IntKind} {kvs : List (Int × CV)} (h : bldFn P f k = some kvs) (H : Heap) : FSpec P f [] H (.map k kvs) H := by
  intro ro bo fr Φ w vs hvs hV hH hb
  unfold bldFn at h
  cases hf : P.funcs[f]? with
  | none => rw [hf] at h; cases h
  | some fn =>
    rw [hf] at h; simp only at h
    split at h
    · cases h
    rename_i hnm
    split at h
    · rename_i id0 ops0 id1 ops1 hbd
      split at h
      · cases h
      rename_i hnil
      split at h
      · rename_i o l hol
        split at h
        · rename_i t d ho hd hg
          split at h
          · cases h
          rename_i hdn
          split at h
          · rename_i ms kvs' t' hbl hres
            split at h
            · rename_i hmt
              cases h
              refine .inl ⟨by unfold okFn; rw [hf]; simp [hbd]; simpa using hnm, ?_⟩
              refine calls_of_wp hf hbd ?_
              have hvs0 : vs = #[] := by simpa using hvs
              subst hvs0
              refine wp_seq (wp_region_list (nil_list (n := fn.ntmps) _ _ (by simpa using hnil) (by simp) rfl fun a1 s1 d1 => ?_))
              refine wp_seq (wp_region_list ?_)
              rw [hol]
              refine wpList_plain hg fun K hK => ?_
              unfold Oper.wp
              rw [show (execOp a1.eval o).run P w = .ok (.value (.map (some w.heap.size))) (w.alloc (.map #[] 0)) by simp [execOp, ho, Instr.makeMap], Oper.upon_value, hd]
              have hdl : d < fn.ntmps := by simpa using hdn
              have hfr : fr w.heap.size = none := by
                cases hx : fr w.heap.size with
                | none => rfl
                | some o => have := hH.fr_lt hx; omega
              have hold : ∀ r' x, w.heap[r']? = some x → (w.alloc (.map #[] 0)).heap[r']? = some x := fun r' x hx => alloc_old w _ r' x hx
              have hH1 : Holds ro (fr.put w.heap.size (.map #[] 0)) Φ H (w.alloc (.map #[] 0)) := by
                refine ⟨fun r' x hx => hold r' x (hH.hro r' x hx), fun r' x hx => ?_, fun i b hi => ?_, hH.inj, fun i b r' p hi hp => ?_, hH.dom, fun r' x hx => ?_⟩
                · simp only [Mem.put] at hx
                  split at hx
                  · rename_i q; subst q; cases hx; exact heap_alloc_new w _
                  · exact hold r' x (hH.hfr r' x hx)
                · refine (hH.own i b hi).imp (fun x => x) fun ⟨r', o1, s1, g1, g2⟩ => ⟨r', o1, s1, g1, g2.mono (Mem.le_refl _) (Emb.le_refl _) ?_⟩
                  obtain ⟨⟨c, g3, _⟩, _⟩ := g2
                  rw [g3]; exact hold _ _ g3
                · obtain ⟨g1, g2⟩ := hH.sep i b r' p hi hp
                  have := hH.own_lt hi hp
                  exact ⟨g1, by simp only [Mem.put]; rw [if_neg (by omega)]; exact g2⟩
                · have := hH.ro_lt hx
                  simp only [Mem.put]
                  rw [if_neg (by omega)]; exact hH.disj r' x hx
              refine hK _ _ (bld_list (r := w.heap.size) hb l [] [d] [] ro _ _ hbl ⟨⟨by simp [Act.put, s1], by simpa [Act.put] using d1, fun t x ht => by cases ht⟩, fun t ht => ?_, ⟨#[], 0, hH1, rfl⟩, hfr⟩ ?_)
              · have : t = d := by simpa using ht
                subst this
                simp only [Act.put]
                rw [Array.getElem?_setIfInBounds_self_of_lt (by rw [s1]; exact hdl)]
              · intro a2 w2 e2 ro2 hB2 hro2 hext
                refine wp_ret ?_
                obtain ⟨es, clock, hH2, hes⟩ := hB2.obj
                have hro0 := hB2.roN
                have hmt2 := hB2.ms t' (by simpa using hmt)
                have hx : (fn.results.toList.mapM (resOne a2)).run P w2 = .ok [.map (some w.heap.size)] w2 := by
                  rw [hres]; simp [List.mapM_cons, resOne, hmt2]
                refine ⟨hB2.st.defers, _, results_run hx, _, ro2.put w.heap.size (.map es clock), Φ, rfl, .map k _ _ es clock (by simp [Mem.put]) hes, ?_, Mem.le_trans hro2 (Mem.put_le hro0), Emb.le_refl _, (WExt.alloc w _).trans hext⟩
                have hat : w2.heap[w.heap.size]? = some (.map es clock) := hH2.hfr w.heap.size (.map es clock) (by simp [Mem.put])
                have hf2 : ∀ r' x, fr r' = some x → r' ≠ w.heap.size := fun r' x hx q => by subst q; rw [hfr] at hx; cases hx
                refine ⟨fun r' x hx => ?_, fun r' x hx => hH2.hfr r' x (by simp only [Mem.put]; rw [if_neg (hf2 r' x hx)]; exact hx), fun i b hi => (hH2.own i b hi).imp (fun x => x) fun ⟨r', o1, s1, g1, g2⟩ => ⟨r', o1, s1, g1, g2.mono (Mem.put_le hro0) (Emb.le_refl _) rfl⟩, hH2.inj, fun i b r' p hi hp => ?_, hH2.dom, fun r' x hx => ?_⟩
                · simp only [Mem.put] at hx
                  split at hx
                  · rename_i q; subst q; cases hx; exact hat
                  · exact hH2.hro r' x hx
                · obtain ⟨g1, g2⟩ := hH2.sep i b r' p hi hp
                  simp only [Mem.put] at g2
                  split at g2
                  · cases g2
                  · rename_i q; exact ⟨by simp only [Mem.put]; rw [if_neg q]; exact g1, g2⟩
                · simp only [Mem.put] at hx
                  split at hx
                  · rename_i q; subst q; exact hfr
                  · have := hH2.disj r' x hx
                    simp only [Mem.put] at this
                    split at this
                    · cases this
                    · exact this
            · cases h
          · cases h
        · cases h
      · cases h
    · cases h
end
end Go.Fw
