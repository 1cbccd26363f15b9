/-
  A frame for proofs about programs of the model, part 2.
-/
import Derived.Test.YthgibibeoapfbaaGreatFwA
import Derived.Laws.Externs
import Derived.ProofKit
import Derived.OpenShut
import Derived.SizedLaws
set_option linter.unusedSimpArgs false
set_option linter.unnecessarySimpa false
set_option linter.unusedVariables false
set_option linter.unusedSectionVars false
namespace Go.Fw
abbrev R2 := Option (Prop × AV × Heap)
def storeF (n : Nat) (p c : AV) (H : Heap) : R2 :=
  match p with
  | .ptr id off => match H.blk id with
    | some b => some (c.okc = true ∧ c.cells.length = n ∧ off + n ≤ b.cells.length ∧ cleanL c.cells = true, .tuple [], H.set id (some ⟨splice b.cells off c.cells, b.elem, b.exact⟩))
    | none => none
  | _ => none
def appOF (T s by_ : Nat) (v w : AV) (H : Heap) : R2 :=
  match sliceCells H w with
  | some ys => match v with
    | .list s' m xs => some (szAV w s = true ∧ cleanL ys = true ∧ T < 1000000 ∧ (m.nl = true ∨ s' = s) ∧ (m.nl = true ∨ m.full = true) ∧ (xs = [] ∨ ys ≠ []) ∧ cleanL xs = true ∧ ((xs.length + ys.length) / s * by_ ≤ 140737488355328 ∧ (xs.length + ys.length) / s ≤ 9223372036854775807),
        .slice s H.length 0 ((xs.length + ys.length) / s) none, H ++ [some ⟨xs ++ ys, T, false⟩])
    | .slice s' id off len none => match H.blk id with
      | some b => some (szAV w s = true ∧ cleanL ys = true ∧ T < 1000000 ∧ s' = s ∧ b.elem = T ∧ off + len * s ≤ b.cells.length ∧ ((len + ys.length / s) * by_ ≤ 140737488355328 ∧ len + ys.length / s ≤ 9223372036854775807),
          .slice s H.length 0 (len + ys.length / s) none, H.set id none ++ [some ⟨(b.cells.drop off).take (len * s) ++ ys, T, false⟩])
      | none => none
    | .slice s' id off len (some c) => match H.blk id with
      | some b => if len + ys.length / s ≤ c then
          some (szAV w s = true ∧ cleanL ys = true ∧ T < 1000000 ∧ s' = s ∧ off + c * s ≤ b.cells.length ∧ len ≤ c ∧ ((len + ys.length / s) * by_ ≤ 140737488355328 ∧ len + ys.length / s ≤ 9223372036854775807),
            .slice s id off (len + ys.length / s) (some c), H.set id (some ⟨splice b.cells (off + len * s) ys, b.elem, b.exact⟩))
        else some (szAV w s = true ∧ cleanL ys = true ∧ T < 1000000 ∧ s' = s ∧ off + c * s ≤ b.cells.length ∧ len ≤ c ∧ ((len + ys.length / s) * by_ ≤ 140737488355328 ∧ len + ys.length / s ≤ 9223372036854775807),
            .slice s H.length 0 (len + ys.length / s) none, H ++ [some ⟨(b.cells.drop off).take (len * s) ++ ys, T, false⟩])
      | none => none
    | _ => none
  | none => none
def copyF (s : Nat) (v w : AV) (H : Heap) : R2 :=
  match sliceCells H w with
  | some ys => match v with
    | .slice s' id off len _ => match H.blk id with
      | some b => some (szAV w s = true ∧ cleanL ys = true ∧ notStr w = true ∧ s' = s ∧ off + len * s ≤ b.cells.length,
          .int .i64 (Min.min (ys.length / s) len : Nat), H.set id (some ⟨splice b.cells off (ys.take (Min.min (ys.length / s) len * s)), b.elem, b.exact⟩))
      | none => none
    | _ => none
  | none => none
def boxF (T : TypeId) (v : AV) (H : Heap) : R2 := some (v.okc = true ∧ cleanL v.cells = true ∧ T < 1000000, .ptr H.length 0, H ++ [some ⟨v.cells, T, true⟩])
def mkSF (T s by_ : Nat) (z : List AV) (l c : AV) (H : Heap) : R2 := match l, c with
  | .int k l, .int k' c => some (k = k' ∧ (0 ≤ l ∧ l ≤ c ∧ c * by_ ≤ 140737488355328 ∧ c ≤ 9223372036854775807) ∧ T < 1000000, .slice s H.length 0 l.toNat (some c.toNat), H ++ [some ⟨(List.replicate c.toNat z).flatten, T, true⟩])
  | _, _ => none
def buildOF (T s : Nat) (o : Option (List (Nat × Nat × AV))) (z : List AV) (H : Heap) : R2 := match o with
  | some vs => match fillA z vs with
    | some cs => some (cleanL cs = true ∧ T < 1000000, .slice s H.length 0 (cs.length / s) (some (cs.length / s)), H ++ [some ⟨cs, T, true⟩])
    | none => none
  | none => none
def bindH (o : Option AV) (f : AV → R2) : R2 := match o with
  | some v => f v
  | none => none
def bindH2 (o p : Option AV) (f : AV → AV → R2) : R2 := match o, p with
  | some v, some w => f v w
  | _, _ => none
def mkAF (L q T s by_ : Nat) (z : List AV) (l c : AV) (H : Heap) : R2 := match l, c with
  | .int k l, .int k' c => match H.blk (L + q) with
    | some b => some (k = k' ∧ b = ⟨[], 1000000, false⟩ ∧ (0 ≤ l ∧ l ≤ c ∧ c * by_ ≤ 140737488355328 ∧ c ≤ 9223372036854775807) ∧ T < 1000000, .slice s (L + q) 0 l.toNat (some c.toNat), H.set (L + q) (some ⟨(List.replicate c.toNat z).flatten, T, true⟩))
    | none => none
  | _, _ => none
def cvtF (v : AV) (H : Heap) : R2 := match v with
  | .slice s id off len (some cap) => match H.blk id with
    | some b => some (s = 1 ∧ 0 < len ∧ off + len ≤ b.cells.length, .list 1 ⟨false, decide (cap = len), false⟩ ((b.cells.drop off).take len), H.set id none)
    | none => none
  | _ => none
def alAF (L q T : Nat) (z : List AV) (H : Heap) : R2 := match H.blk (L + q) with
  | some b => some (b = ⟨[], 1000000, false⟩ ∧ T < 1000000, .ptr (L + q) 0, H.set (L + q) (some ⟨z, T, true⟩))
  | none => none
def hvF (o : IOp) (e : Env) (H : Heap) : R2 :=
  match o with
  | .alloc T z => some (T < 1000000, .ptr H.length 0, H ++ [some ⟨z, T, true⟩])
  | .box T x => bindH (e.opd x) fun v => boxF T v H
  | .buildO T s z ps => buildOF T s (e.parts ps) z H
  | .store n x v => bindH2 (e.opd x) (e.opd v) fun p c => storeF n p c H
  | .appO T s by_ x y => bindH2 (e.opd x) (e.opd y) fun v w => appOF T s by_ v w H
  | .copy s x y => bindH2 (e.opd x) (e.opd y) fun v w => copyF s v w H
  | .makeS T s by_ z l c => bindH2 (e.opd l) (e.opd c) fun l c => mkSF T s by_ z l c H
  | .allocA L q T z => alAF L q T z H
  | .cvt x => bindH (e.opd x) fun v => cvtF v H
  | .makeA L q T s by_ z l c => bindH2 (e.opd l) (e.opd c) fun l c => mkAF L q T s by_ z l c H
  | _ => none
theorem bindH_some {o : Option AV} {f : AV → R2} {x : Prop × AV × Heap} (h : bindH o f = some x) : ∃ v, o = some v ∧ f v = some x := by
  cases o with
  | none => cases h
  | some v => exact ⟨v, rfl, h⟩
theorem bindH2_some {o q : Option AV} {f : AV → AV → R2} {x : Prop × AV × Heap} (h : bindH2 o q f = some x) : ∃ v w, o = some v ∧ q = some w ∧ f v w = some x := by
  cases o with
  | none => cases h
  | some v => cases q with
    | none => cases h
    | some w => exact ⟨v, w, rfl, rfl, h⟩
theorem hvF_sound {P : Program} {o : IOp} {e : Env} {H H' : Heap} {p : Prop} {v : AV} (hf : hvF o e H = some (p, v, H')) (hp : p) {K : AV → Heap → Prop} (hK : K v H') : hv P o e H K := by
  cases o <;> simp only [hvF] at hf <;> try (cases hf; done)
  case alloc T z => cases hf; exact ⟨hp, hK⟩
  case box T x =>
    obtain ⟨u, h1, h2⟩ := bindH_some hf
    cases h2
    exact ⟨u, h1, hp.1, hp.2.1, hp.2.2, hK⟩
  case buildO T s z ps =>
    unfold buildOF at hf
    split at hf
    · rename_i vs hvs
      split at hf <;> cases hf
      rename_i cs hcs
      exact ⟨vs, _, hvs, hcs, hp.1, hp.2, hK⟩
    · cases hf
  case store n x c =>
    obtain ⟨u, w, h1, h2, h3⟩ := bindH2_some hf
    refine ⟨u, w, h1, h2, ?_⟩
    unfold storeF at h3
    split at h3
    · split at h3 <;> cases h3
      rename_i b hb
      exact ⟨b, hb, hp.1, hp.2.1, hp.2.2.1, hp.2.2.2, hK⟩
    · cases h3
  case appO T s by_ x y =>
    obtain ⟨u, w, h1, h2, h3⟩ := bindH2_some hf
    unfold appOF at h3
    split at h3
    · rename_i ys hys
      refine ⟨u, w, ys, h1, h2, hys, ?_⟩
      split at h3
      · cases h3
        exact ⟨hp.1, hp.2.1, hp.2.2.1, hp.2.2.2.1, hp.2.2.2.2.1, hp.2.2.2.2.2.1, hp.2.2.2.2.2.2.1, hp.2.2.2.2.2.2.2, hK⟩
      · split at h3 <;> cases h3
        rename_i b hb
        exact ⟨hp.1, hp.2.1, hp.2.2.1, b, hb, hp.2.2.2.1, hp.2.2.2.2.1, hp.2.2.2.2.2.1, hp.2.2.2.2.2.2, hK⟩
      · split at h3
        · rename_i b hb
          split at h3 <;> cases h3
          · rename_i hc
            exact ⟨hp.1, hp.2.1, hp.2.2.1, b, hb, hp.2.2.2.1, hp.2.2.2.2.1, hp.2.2.2.2.2.1, hp.2.2.2.2.2.2, fun _ => hK, fun h => absurd hc (by omega)⟩
          · rename_i hc
            exact ⟨hp.1, hp.2.1, hp.2.2.1, b, hb, hp.2.2.2.1, hp.2.2.2.2.1, hp.2.2.2.2.2.1, hp.2.2.2.2.2.2, fun h => absurd h hc, fun _ => hK⟩
        · cases h3
      · cases h3
    · cases h3
  case copy s x y =>
    obtain ⟨u, w, h1, h2, h3⟩ := bindH2_some hf
    unfold copyF at h3
    split at h3
    · rename_i ys hys
      refine ⟨u, w, ys, h1, h2, hys, ?_⟩
      split at h3
      · split at h3 <;> cases h3
        rename_i b hb
        exact ⟨hp.1, hp.2.1, hp.2.2.1, b, hb, hp.2.2.2.1, hp.2.2.2.2, hK⟩
      · cases h3
    · cases h3
  case makeS T s by_ z l c =>
    obtain ⟨u, w, h1, h2, h3⟩ := bindH2_some hf
    unfold mkSF at h3
    split at h3 <;> cases h3
    obtain ⟨rfl, hq⟩ := hp
    exact ⟨_, _, _, h1, h2, hq.1, hq.2, hK⟩
  case cvt x =>
    obtain ⟨u, h1, h2⟩ := bindH_some hf
    unfold cvtF at h2
    split at h2
    · split at h2 <;> cases h2
      rename_i b hb
      obtain ⟨rfl, hq⟩ := hp
      exact ⟨_, _, _, _, b, h1, hb, hq.1, hq.2, hK⟩
    · cases h2
  case allocA L q T z =>
    unfold alAF at hf
    split at hf <;> cases hf
    rename_i b hb
    obtain ⟨rfl, hq⟩ := hp
    exact ⟨hb, hq, hK⟩
  case makeA L q T s by_ z l c =>
    obtain ⟨u, w, h1, h2, h3⟩ := bindH2_some hf
    unfold mkAF at h3
    split at h3
    · split at h3 <;> cases h3
      rename_i b hb
      obtain ⟨rfl, rfl, hq⟩ := hp
      exact ⟨_, _, _, h1, h2, hb, hq.1, hq.2, hK⟩
    · cases h3
theorem Env.get_set (e : Env) (t s : Nat) (v : AV) : (e.set t v).get s = if s = t then some v else e.get s := by
  induction e with
  | nil => simp only [Env.set, Env.get]
  | cons p l ih =>
    obtain ⟨q, w⟩ := p
    simp only [Env.set]
    by_cases h1 : t = q
    · subst h1
      rw [if_pos rfl]
      simp only [Env.get]
      by_cases h2 : s = t
      · simp [h2]
      · simp [h2]
    · rw [if_neg h1]
      by_cases h2 : t < q
      · rw [if_pos h2]; simp only [Env.get]
      · rw [if_neg h2]
        simp only [Env.get, ih]
        by_cases h3 : s = q
        · subst h3; rw [if_pos rfl, if_pos rfl, if_neg (Ne.symm h1)]
        · rw [if_neg h3, if_neg h3]
def Env.sub (a b : Env) : Prop := ∀ (t : Nat) (v : AV), a.get t = some v → b.get t = some v
theorem Env.sub_refl (a : Env) : Env.sub a a := fun _ _ h => h
theorem Env.sub_trans {a b c : Env} (h : Env.sub a b) (k : Env.sub b c) : Env.sub a c := fun t v x => k t v (h t v x)
def Env.dels : Env → List Nat → Env
  | e, [] => e
  | e, t :: ts => Env.dels (e.del t) ts
theorem Env.get_del (e : Env) (t s : Nat) : (e.del t).get s = if s = t then none else e.get s := by
  induction e with
  | nil => simp [Env.del, Env.get]
  | cons p l ih =>
    obtain ⟨q, w⟩ := p
    simp only [Env.del]
    by_cases h1 : t = q
    · subst h1
      rw [if_pos rfl, ih]
      by_cases h2 : s = t
      · simp [h2]
      · simp [h2, Env.get]
    · rw [if_neg h1]
      simp only [Env.get, ih]
      by_cases h2 : s = q
      · subst h2; rw [if_pos rfl, if_pos rfl, if_neg (Ne.symm h1)]
      · rw [if_neg h2, if_neg h2]
theorem Env.sub_del (e : Env) (t : Nat) : Env.sub (e.del t) e := fun s v h => by
  rw [Env.get_del] at h
  split at h
  · cases h
  · exact h
theorem Env.sub_dels : ∀ (ts : List Nat) (e : Env), Env.sub (e.dels ts) e
  | [], e => Env.sub_refl e
  | t :: ts, e => Env.sub_trans (Env.sub_dels ts (e.del t)) (Env.sub_del e t)
theorem Env.sub_set {a b : Env} (h : Env.sub a b) (t : Nat) (v : AV) : Env.sub (a.set t v) (b.set t v) := fun s u hs => by
  rw [Env.get_set] at hs ⊢
  split
  · rename_i e; rw [if_pos e] at hs; exact hs
  · rename_i e; rw [if_neg e] at hs; exact h s u hs
theorem Env.sub_setO {a b : Env} (h : Env.sub a b) (d : Option Nat) (v : AV) : Env.sub (a.setO d v) (b.setO d v) := by
  cases d with
  | none => exact h
  | some t => exact Env.sub_set h t v
theorem Env.sub_opd {a b : Env} (h : Env.sub a b) {x : Opd} {v : AV} (hx : a.opd x = some v) : b.opd x = some v := by
  cases x with
  | t n => exact h n v hx
  | k c => exact hx
theorem Env.sub_opds {a b : Env} (h : Env.sub a b) : ∀ {xs : List Opd} {vs : List AV}, a.opds xs = some vs → b.opds xs = some vs
  | [], vs, hx => hx
  | x :: xs, vs, hx => by
    simp only [Env.opds] at hx ⊢
    split at hx
    · rename_i v hv
      split at hx <;> cases hx
      rename_i vs' hvs
      rw [Env.sub_opd h hv, Env.sub_opds h hvs]
    · cases hx
theorem Env.sub_parts {a b : Env} (h : Env.sub a b) : ∀ {xs : List (Nat × Nat × Opd)} {vs : List (Nat × Nat × AV)}, a.parts xs = some vs → b.parts xs = some vs
  | [], vs, hx => hx
  | (o, n, x) :: xs, vs, hx => by
    simp only [Env.parts] at hx ⊢
    split at hx
    · rename_i v hv
      split at hx <;> cases hx
      rename_i vs' hvs
      rw [Env.sub_opd h hv, Env.sub_parts h hvs]
    · cases hx
theorem Env.sub_opdO {a b : Env} (h : Env.sub a b) {x : Option Opd} {v : Option AV} (hx : a.opdO x = some v) : b.opdO x = some v := by
  cases x with
  | none => exact hx
  | some x =>
    simp only [Env.opdO] at hx ⊢
    split at hx <;> cases hx
    rename_i u hu
    rw [Env.sub_opd h hu]
theorem evF_sub {a b : Env} (h : Env.sub a b) {o : IOp} {H : Heap} {x : Prop × AV} (hx : evF o a H = some x) : evF o b H = some x := by
  have b1 : ∀ {y : Opd} {f : AV → R1}, bind1 (a.opd y) f = some x → bind1 (b.opd y) f = some x := fun {y f} k => by
    obtain ⟨v, h1, h2⟩ := bind1_some k
    rw [Env.sub_opd h h1]; exact h2
  have b2 : ∀ {y z : Opd} {f : AV → AV → R1}, bind2 (a.opd y) (a.opd z) f = some x → bind2 (b.opd y) (b.opd z) f = some x := fun {y z f} k => by
    obtain ⟨v, w, h1, h2, h3⟩ := bind2_some k
    rw [Env.sub_opd h h1, Env.sub_opd h h2]; exact h3
  have bS : ∀ {y : Opd} {l hh m : Option Opd} {f : AV → Option AV → Option AV → Option AV → R1}, bindS (a.opd y) (a.opdO l) (a.opdO hh) (a.opdO m) f = some x → bindS (b.opd y) (b.opdO l) (b.opdO hh) (b.opdO m) f = some x := fun {y l hh m f} k => by
    obtain ⟨v, w, q, r, h1, h2, h3, h4, h5⟩ := bindS_some k
    rw [Env.sub_opd h h1, Env.sub_opdO h h2, Env.sub_opdO h h3, Env.sub_opdO h h4]; exact h5
  have bA : ∀ {ps : List (Nat × Nat × Opd)} {z : List AV} {f : List AV → AV}, aggF (a.parts ps) z f = some x → aggF (b.parts ps) z f = some x := fun {ps z f} k => by
    cases hp : a.parts ps with
    | none => rw [hp] at k; cases k
    | some vs => rw [hp] at k; rw [Env.sub_parts h hp]; exact k
  cases o <;> simp only [evF] at hx ⊢ <;> try (first | exact b1 hx | exact b2 hx | exact bS hx | exact bA hx | exact hx | (cases hx; done))
  case pick c y z =>
    cases hc : a.opd c with
    | none => rw [hc] at hx; cases hx
    | some v =>
      rw [hc] at hx; rw [Env.sub_opd h hc]
      cases v <;> try (cases hx; done)
      rename_i t
      cases t with
      | true =>
        simp only [pickO, pickF] at hx ⊢
        cases hy : a.opd y with
        | none => rw [hy] at hx; cases hx
        | some v => rw [hy] at hx; rw [Env.sub_opd h hy]; exact hx
      | false =>
        simp only [pickO, pickF] at hx ⊢
        cases hy : a.opd z with
        | none => rw [hy] at hx; cases hx
        | some v => rw [hy] at hx; rw [Env.sub_opd h hy]; exact hx
  case func f x y =>
    split at hx
    · rename_i xs ys h1 h2
      rw [Env.sub_opds h h1, Env.sub_opds h h2]; exact hx
    · cases hx
theorem hvF_sub {a b : Env} (h : Env.sub a b) {o : IOp} {H : Heap} {x : Prop × AV × Heap} (hx : hvF o a H = some x) : hvF o b H = some x := by
  have b1 : ∀ {y : Opd} {f : AV → R2}, bindH (a.opd y) f = some x → bindH (b.opd y) f = some x := fun {y f} k => by
    obtain ⟨v, h1, h2⟩ := bindH_some k
    rw [Env.sub_opd h h1]; exact h2
  have b2 : ∀ {y z : Opd} {f : AV → AV → R2}, bindH2 (a.opd y) (a.opd z) f = some x → bindH2 (b.opd y) (b.opd z) f = some x := fun {y z f} k => by
    obtain ⟨v, w, h1, h2, h3⟩ := bindH2_some k
    rw [Env.sub_opd h h1, Env.sub_opd h h2]; exact h3
  cases o <;> simp only [hvF] at hx ⊢ <;> try (first | exact b1 hx | exact b2 hx | exact hx | (cases hx; done))
  case buildO T e z ps =>
    cases hp : a.parts ps with
    | none => rw [hp] at hx; cases hx
    | some vs => rw [hp] at hx; rw [Env.sub_parts h hp]; exact hx
def opF (P : Program) (o : IOp) (e : Env) (H : Heap) (K : AV → Heap → Prop) : Prop :=
  match o with
  | .call f args => ∃ as, e.opds args = some as ∧ ∃ r H', FSpec P f as H r H' ∧ K r H'
  | .callv f args => ∃ g caps as, e.opd f = some (.func (.func g) [] caps) ∧ e.opds args = some as ∧ okFn P g = true ∧ ∃ r H', FSpec P g (as ++ caps) H r H' ∧ K r H'
  | .callP f args => ∃ as, e.opds args = some as ∧ ∃ r, (∀ H, FSpec P f as H r H) ∧ K r H
  | o => if isHv o then (match hvF o e H with
      | some (p, v, H') => p ∧ K v H'
      | none => False)
    else match evF o e H with
      | some (p, v) => p ∧ K v H
      | none => False
def grd (o : Option AV) (b : Bool) (A B C : Prop) : Prop := match o with
  | some (.bool c) => (c = b → A) ∧ (c = !b → B)
  | some (.tuple []) => C
  | _ => False
theorem opF_sound {P : Program} {o : IOp} {a b : Env} (h : Env.sub a b) {H : Heap} {K K' : AV → Heap → Prop} (hK : ∀ v H', K v H' → K' v H') (hf : opF P o a H K) : opWP P o b H K' := by
  unfold opF at hf
  split at hf
  · obtain ⟨as, h1, r, H', h2, h3⟩ := hf
    exact ⟨as, Env.sub_opds h h1, r, H', h2, hK _ _ h3⟩
  · obtain ⟨g, caps, as, h0, h1, ho, r, H', h2, h3⟩ := hf
    exact ⟨g, caps, as, Env.sub_opd h h0, Env.sub_opds h h1, ho, r, H', h2, hK _ _ h3⟩
  · obtain ⟨as, h1, r, h2, h3⟩ := hf
    exact ⟨as, Env.sub_opds h h1, r, h2, hK _ _ h3⟩
  · rename_i hne
    unfold opWP
    split
    · exact absurd rfl (hne _ _)
    split at hf
    · rename_i hh
      rw [if_pos hh]
      split at hf
      · rename_i p v H' hr
        exact hvF_sound (hvF_sub h hr) hf.1 (hK _ _ hf.2)
      · exact hf.elim
    · rename_i hh
      rw [if_neg hh]
      split at hf
      · rename_i p v hr
        exact evF_sound (evF_sub h hr) hf.1 (hK _ _ hf.2)
      · exact hf.elim
end Go.Fw
namespace Go.Fw
def opsI : IOp → List Opd
  | .mv x => [x]
  | .pick c a b => [c, a, b]
  | .bin _ _ x y => [x, y]
  | .isNil _ _ x => [x]
  | .eqA _ _ x y => [x, y]
  | .un _ x => [x]
  | .convI _ x => [x]
  | .toStr x => [x]
  | .ofStr _ x => [x]
  | .alloc .. => []
  | .box _ x => [x]
  | .build _ ps => ps.map (·.2.2)
  | .buildF _ _ _ ps => ps.map (·.2.2)
  | .buildO _ _ _ ps => ps.map (·.2.2)
  | .load _ x => [x]
  | .store _ x v => [x, v]
  | .nilCheck x => [x]
  | .fieldAddr _ x => [x]
  | .field _ _ x => [x]
  | .idxA _ _ x i => [x, i]
  | .idxS _ x i => [x, i]
  | .ixA _ _ _ x i => [x, i]
  | .slS _ x l h m => x :: (l.toList ++ h.toList ++ m.toList)
  | .slA _ _ x l h m => x :: (l.toList ++ h.toList ++ m.toList)
  | .len _ x => [x]
  | .lenK _ => []
  | .appF _ _ _ x y => [x, y]
  | .appO _ _ _ x y => [x, y]
  | .copy _ x y => [x, y]
  | .makeS _ _ _ _ l c => [l, c]
  | .extract _ x => [x]
  | .s2a _ _ x => [x]
  | .call _ args => args
  | .callv f args => f :: args
  | .callP _ args => args
  | .func _ a c => a ++ c
  | .iface _ x => [x]
  | .look _ _ x i => [x, i]
  | .min x y => [x, y]
  | .max x y => [x, y]
  | .allocA .. => []
  | .cvt x => [x]
  | .makeA _ _ _ _ _ _ l c => [l, c]
def odT : Opd → List Nat
  | .t n => [n]
  | .k _ => []
def usesI (o : IOp) : List Nat := (opsI o).flatMap odT
def rdI : IOp → Bool
  | .load .. | .toStr .. | .appF .. | .slA .. => true
  | _ => false
section
variable {a b : Env} {H : Heap}
def Oof (a b : Env) (x : Opd) : Prop := ∀ v, a.opd x = some v → b.opd x = some v
theorem loc_opds : ∀ {xs : List Opd} {vs : List AV}, (∀ x ∈ xs, Oof a b x) → a.opds xs = some vs → b.opds xs = some vs
  | [], vs, _, hx => hx
  | x :: xs, vs, h, hx => by
    simp only [Env.opds] at hx ⊢
    split at hx
    · rename_i v hv
      split at hx <;> cases hx
      rename_i vs' hvs
      rw [h x (by simp) _ hv, loc_opds (fun y hy => h y (by simp [hy])) hvs]
    · cases hx
theorem loc_parts : ∀ {xs : List (Nat × Nat × Opd)} {vs : List (Nat × Nat × AV)}, (∀ x ∈ xs.map (·.2.2), Oof a b x) → a.parts xs = some vs → b.parts xs = some vs
  | [], vs, _, hx => hx
  | (o, n, x) :: xs, vs, h, hx => by
    simp only [Env.parts] at hx ⊢
    split at hx
    · rename_i v hv
      split at hx <;> cases hx
      rename_i vs' hvs
      rw [h x (by simp) _ hv, loc_parts (fun y hy => h y (by simp only [List.map_cons, List.mem_cons]; exact .inr hy)) hvs]
    · cases hx
theorem loc_opdO {x : Option Opd} {v : Option AV} (h : ∀ y ∈ x.toList, Oof a b y) (hx : a.opdO x = some v) : b.opdO x = some v := by
  cases x with
  | none => exact hx
  | some x =>
    simp only [Env.opdO] at hx ⊢
    split at hx <;> cases hx
    rename_i u hu
    rw [h x (by simp) _ hu]
theorem evF_loc {o : IOp} (h : ∀ x ∈ opsI o, Oof a b x) {x : Prop × AV} (hx : evF o a H = some x) : evF o b H = some x := by
  have b1 : ∀ {y : Opd} {f : AV → R1}, Oof a b y → bind1 (a.opd y) f = some x → bind1 (b.opd y) f = some x := fun {y f} g k => by
    obtain ⟨v, h1, h2⟩ := bind1_some k
    rw [g _ h1]; exact h2
  have b2 : ∀ {y z : Opd} {f : AV → AV → R1}, Oof a b y → Oof a b z → bind2 (a.opd y) (a.opd z) f = some x → bind2 (b.opd y) (b.opd z) f = some x := fun {y z f} g1 g2 k => by
    obtain ⟨v, w, h1, h2, h3⟩ := bind2_some k
    rw [g1 _ h1, g2 _ h2]; exact h3
  have bS : ∀ {y : Opd} {l hh m : Option Opd} {f : AV → Option AV → Option AV → Option AV → R1}, (∀ z ∈ y :: (l.toList ++ hh.toList ++ m.toList), Oof a b z) → bindS (a.opd y) (a.opdO l) (a.opdO hh) (a.opdO m) f = some x → bindS (b.opd y) (b.opdO l) (b.opdO hh) (b.opdO m) f = some x := fun {y l hh m f} g k => by
    obtain ⟨v, w, q, r, h1, h2, h3, h4, h5⟩ := bindS_some k
    rw [g y (by simp) _ h1, loc_opdO (fun z hz => g z (by simp [Option.mem_toList.1 hz])) h2, loc_opdO (fun z hz => g z (by simp [Option.mem_toList.1 hz])) h3, loc_opdO (fun z hz => g z (by simp [Option.mem_toList.1 hz])) h4]; exact h5
  have bA : ∀ {ps : List (Nat × Nat × Opd)} {z : List AV} {f : List AV → AV}, (∀ x ∈ ps.map (·.2.2), Oof a b x) → aggF (a.parts ps) z f = some x → aggF (b.parts ps) z f = some x := fun {ps z f} g k => by
    cases hp : a.parts ps with
    | none => rw [hp] at k; cases k
    | some vs => rw [hp] at k; rw [loc_parts g hp]; exact k
  cases o <;> simp only [evF, opsI] at hx h ⊢ <;> try (first | exact b1 (h _ (by simp)) hx | exact b2 (h _ (by simp)) (h _ (by simp)) hx | exact bS h hx | exact bA h hx | exact hx | (cases hx; done))
  case pick c y z =>
    cases hc : a.opd c with
    | none => rw [hc] at hx; cases hx
    | some v =>
      rw [hc] at hx; rw [h c (by simp) _ hc]
      cases v <;> try (cases hx; done)
      rename_i t
      cases t with
      | true =>
        simp only [pickO, pickF] at hx ⊢
        cases hy : a.opd y with
        | none => rw [hy] at hx; cases hx
        | some v => rw [hy] at hx; rw [h y (by simp) _ hy]; exact hx
      | false =>
        simp only [pickO, pickF] at hx ⊢
        cases hy : a.opd z with
        | none => rw [hy] at hx; cases hx
        | some v => rw [hy] at hx; rw [h z (by simp) _ hy]; exact hx
  case func f x y =>
    split at hx
    · rename_i xs ys h1 h2
      rw [loc_opds (fun z hz => h z (by simp [hz])) h1, loc_opds (fun z hz => h z (by simp [hz])) h2]; exact hx
    · cases hx
theorem hvF_loc {o : IOp} (h : ∀ x ∈ opsI o, Oof a b x) {x : Prop × AV × Heap} (hx : hvF o a H = some x) : hvF o b H = some x := by
  have b1 : ∀ {y : Opd} {f : AV → R2}, Oof a b y → bindH (a.opd y) f = some x → bindH (b.opd y) f = some x := fun {y f} g k => by
    obtain ⟨v, h1, h2⟩ := bindH_some k
    rw [g _ h1]; exact h2
  have b2 : ∀ {y z : Opd} {f : AV → AV → R2}, Oof a b y → Oof a b z → bindH2 (a.opd y) (a.opd z) f = some x → bindH2 (b.opd y) (b.opd z) f = some x := fun {y z f} g1 g2 k => by
    obtain ⟨v, w, h1, h2, h3⟩ := bindH2_some k
    rw [g1 _ h1, g2 _ h2]; exact h3
  cases o <;> simp only [hvF, opsI] at hx h ⊢ <;> try (first | exact b1 (h _ (by simp)) hx | exact b2 (h _ (by simp)) (h _ (by simp)) hx | exact hx | (cases hx; done))
  case buildO T e z ps =>
    cases hp : a.parts ps with
    | none => rw [hp] at hx; cases hx
    | some vs => rw [hp] at hx; rw [loc_parts h hp]; exact hx
theorem evF_heap {o : IOp} (hr : rdI o = false) (H' : Heap) : evF o a H = evF o a H' := by
  cases o <;> first | rfl | (cases hr; done)
theorem opF_loc {P : Program} {o : IOp} (h : ∀ x ∈ opsI o, Oof a b x) {K : AV → Heap → Prop} (hf : opF P o a H K) : opF P o b H K := by
  unfold opF at hf ⊢
  split at hf
  · obtain ⟨as, h1, r, H', h2, h3⟩ := hf
    exact ⟨as, loc_opds h h1, r, H', h2, h3⟩
  · obtain ⟨g, caps, as, h0, h1, ho, r, H', h2, h3⟩ := hf
    exact ⟨g, caps, as, h _ (by simp [opsI]) _ h0, loc_opds (fun x hx => h x (by simp [opsI, hx])) h1, ho, r, H', h2, h3⟩
  · obtain ⟨as, h1, r, h2, h3⟩ := hf
    exact ⟨as, loc_opds h h1, r, h2, h3⟩
  · split at hf
    · rename_i hh
      rw [if_pos hh]
      split at hf
      · rename_i p v H' hr
        rw [hvF_loc h hr]; exact hf
      · exact hf.elim
    · rename_i hh
      rw [if_neg hh]
      split at hf
      · rename_i p v hr
        rw [evF_loc h hr]; exact hf
      · exact hf.elim
theorem opF_heap {P : Program} {o : IOp} (hh : isHv o = false) (hr : rdI o = false) (H' : Heap) {v : AV} (hf : opF P o a H (fun v' H'' => v' = v ∧ H'' = H)) : opF P o a H' (fun v' H'' => v' = v ∧ H'' = H') := by
  unfold opF at hf ⊢
  split at hf
  · cases hh
  · cases hh
  · obtain ⟨as, h1, r, h2, h3, _⟩ := hf
    exact ⟨as, h1, r, h2, h3, rfl⟩
  · rw [if_neg (by simp [hh])] at hf ⊢
    rw [evF_heap hr H'] at hf
    split at hf
    · exact ⟨hf.1, hf.2.1, rfl⟩
    · exact hf.elim
theorem opF_light {P : Program} {o : IOp} (hh : isHv o = false) {v : AV} {H' : Heap} (hf : opF P o a H (fun v' H'' => v' = v ∧ H'' = H')) : H' = H := by
  unfold opF at hf
  split at hf
  · cases hh
  · cases hh
  · obtain ⟨as, h1, r, h2, h3, h4⟩ := hf
    exact h4.symm
  · rw [if_neg (by simp [hh])] at hf
    split at hf
    · exact hf.2.2.symm
    · exact hf.elim
theorem opF_ev {P : Program} {o : IOp} (hh : isHv o = false) (hr : rdI o = true) {v : AV} {H' : Heap} (hf : opF P o a H (fun v' H'' => v' = v ∧ H'' = H')) : ∃ p, p ∧ evF o a H = some (p, v) := by
  unfold opF at hf
  split at hf
  · cases hh
  · cases hh
  · cases hr
  · rw [if_neg (by simp [hh])] at hf
    split at hf
    · rename_i p u hu
      obtain ⟨h1, rfl, h2⟩ := hf
      exact ⟨p, h1, hu⟩
    · exact hf.elim
theorem opF_of_ev {P : Program} {o : IOp} (hh : isHv o = false) {v : AV} {p : Prop} (hp : p) (he : evF o a H = some (p, v)) : opF P o a H (fun v' H'' => v' = v ∧ H'' = H) := by
  unfold opF
  split
  · cases hh
  · cases hh
  · cases he
  · rw [if_neg (by simp [hh]), he]
    exact ⟨hp, rfl, rfl⟩
theorem opF_det {P : Program} {o : IOp} {K : AV → Heap → Prop} (hf : opF P o a H K) : ∃ v H', K v H' ∧ opF P o a H (fun v' H'' => v' = v ∧ H'' = H') := by
  unfold opF at hf ⊢
  split at hf
  · obtain ⟨as, h1, r, H', h2, h3⟩ := hf
    exact ⟨r, H', h3, as, h1, r, H', h2, rfl, rfl⟩
  · obtain ⟨g, caps, as, h0, h1, ho, r, H', h2, h3⟩ := hf
    exact ⟨r, H', h3, g, caps, as, h0, h1, ho, r, H', h2, rfl, rfl⟩
  · obtain ⟨as, h1, r, h2, h3⟩ := hf
    exact ⟨r, H, h3, as, h1, r, h2, rfl, rfl⟩
  · split at hf
    · rename_i hh
      split at hf
      · rename_i p v H' hr
        exact ⟨v, H', hf.2, by rw [if_pos hh]; exact ⟨hf.1, rfl, rfl⟩⟩
      · exact hf.elim
    · rename_i hh
      split at hf
      · rename_i p v hr
        exact ⟨v, H, hf.2, by rw [if_neg hh]; exact ⟨hf.1, rfl, rfl⟩⟩
      · exact hf.elim
end
def slotI : IOp → Option (Nat × Nat)
  | .allocA L k _ _ => some (L, k)
  | .makeA L k _ _ _ _ _ _ => some (L, k)
  | _ => none
def cutI : IOp → Heap → Heap
  | .allocA L _ _ _, H => H.take L
  | .makeA L _ _ _ _ _ _ _, H => H.take L
  | _, H => H
theorem blk_take {H : Heap} {L id : Nat} {b : Blk} (h : Heap.blk (H.take L) id = some b) : Heap.blk H id = some b := by
  have := blk_get h
  rw [List.getElem?_take] at this
  split at this
  · simp only [Heap.blk, this]
  · cases this
theorem blk_cutI {o : IOp} {H : Heap} {id : Nat} {b : Blk} (h : Heap.blk (cutI o H) id = some b) : Heap.blk H id = some b := by
  cases o <;> first | exact h | exact blk_take h
theorem sliceCells_cut {H H2 : Heap} (hs : ∀ id b, Heap.blk H id = some b → Heap.blk H2 id = some b) {v : AV} {xs : List AV} (h : sliceCells H v = some xs) : sliceCells H2 v = some xs := by
  cases v <;> simp only [sliceCells] at h ⊢ <;> try (first | exact h | (cases h; done))
  split at h
  · rename_i b hb; rw [hs _ _ hb]; exact h
  · cases h
theorem evF_cut {o : IOp} {e : Env} {H H2 : Heap} (hs : ∀ id b, Heap.blk H id = some b → Heap.blk H2 id = some b) {x : Prop × AV} (h : evF o e H = some x) : evF o e H2 = some x := by
  have sc : ∀ {v : AV} {xs : List AV}, sliceCells H v = some xs → sliceCells H2 v = some xs := fun h => sliceCells_cut hs h
  cases o <;> simp only [evF] at h ⊢ <;> try (first | exact h | (cases h; done))
  case toStr x =>
    obtain ⟨v, h1, h2⟩ := bind1_some h
    rw [h1]
    simp only [toStrF, bind1] at h2 ⊢
    split at h2
    · rename_i xs hx; rw [sc hx]; exact h2
    · cases h2
  case load n x =>
    obtain ⟨v, h1, h2⟩ := bind1_some h
    rw [h1]
    simp only [bind1]
    cases v <;> simp only [loadF] at h2 ⊢ <;> try (first | exact h2 | (cases h2; done))
    split at h2
    · rename_i b hb; rw [hs _ _ hb]; exact h2
    · cases h2
  case slA s n x lo hi mx =>
    obtain ⟨v, w, q, r, h1, h2, h3, h4, h5⟩ := bindS_some h
    rw [h1, h2, h3, h4]
    simp only [bindS, slAF] at h5 ⊢
    split at h5
    · rename_i p a b c hb
      split at h5
      · split at h5
        · rename_i bl hbl; rw [hs _ _ hbl]; exact h5
        · cases h5
      · exact h5
      · cases h5
    · cases h5
  case appF T s by_ x y =>
    obtain ⟨v, w, h1, h2, h3⟩ := bind2_some h
    rw [h1, h2]
    simp only [bind2, appFF] at h3 ⊢
    split at h3
    · rename_i ys hy; rw [sc hy]; exact h3
    · cases h3
theorem hvF_slot {o : IOp} {L k : Nat} (hs : slotI o = some (L, k)) {e : Env} {H H' : Heap} {p : Prop} {v : AV} (h : hvF o e H = some (p, v, H')) :
    ∃ b b', H.blk (L + k) = some b ∧ H' = H.set (L + k) (some b') ∧ ∀ H2 : Heap, H2.blk (L + k) = some b → hvF o e H2 = some (p, v, H2.set (L + k) (some b')) := by
  cases o <;> simp only [slotI] at hs <;> try (cases hs; done)
  case allocA L' k' T z =>
    cases hs
    simp only [hvF, alAF] at h ⊢
    split at h <;> cases h
    rename_i b hb
    exact ⟨b, _, hb, rfl, fun H2 h2 => by rw [h2]⟩
  case makeA L' k' T s by_ z l c =>
    cases hs
    simp only [hvF] at h ⊢
    obtain ⟨x, y, h1, h2, h3⟩ := bindH2_some h
    rw [h1, h2]
    simp only [bindH2, mkAF] at h3 ⊢
    split at h3
    · split at h3 <;> cases h3
      rename_i b hb
      exact ⟨b, _, hb, rfl, fun H2 h2 => by simp only [h2]⟩
    · cases h3
structure IOper where
  dst : Option Nat
  guard : Option (Nat × Bool)
  op : IOp
  deriving Inhabited
structure DOper where
  o : IOper
  pos : Nat
  chk : List Nat
  deriving Inhabited
def looks (o : IOper) : List Nat := (match o.guard with | some (g, _) => [g] | none => []) ++ usesI o.op
def writes (o : IOper) (t : Nat) : Bool := match o.dst with
  | some d => decide (d = t)
  | none => false
def apartI (x y : IOper) : Bool := (looks y).all (fun t => !writes x t) && (looks x).all (fun t => !writes y t) && (match x.dst with | some d => !writes y d | none => true)
abbrev Pend := List (Nat × IOp × Env × AV)
def chkF (cs : List Nat) : Pend → Heap → Prop
  | [], _ => True
  | (p, o, e, v) :: l, H => (cs.contains p = true → ∃ q, q ∧ evF o e H = some (q, v)) ∧ chkF cs l H
def Stp (P : Program) (o : IOper) (e : Env) (H : Heap) (v : AV) (H' : Heap) (r : Bool) : Prop :=
  match o.guard with
  | none => r = true ∧ opF P o.op e H fun v' H'' => v' = v ∧ H'' = H'
  | some (g, b) => (r = true ∧ e.get g = some (.bool b) ∧ opF P o.op e H fun v' H'' => v' = v ∧ H'' = H') ∨
      (r = false ∧ (e.get g = some (.bool (!b)) ∨ e.get g = some (.tuple [])) ∧ v = .tuple [] ∧ H' = H)
def push (d : DOper) (r : Bool) (e : Env) (v : AV) (pend : Pend) : Pend := if r && rdI d.o.op then (d.pos, d.o.op, e, v) :: pend else pend
def drawR (P : Program) : List DOper → Pend → Env → Heap → (Env → Heap → Prop) → Prop
  | [], _, e, H, K => K e H
  | d :: l, pend, e, H, K => ∃ v H' r, Stp P d.o e H v H' r ∧ (r = true → isHv d.o.op = true → chkF d.chk pend (cutI d.o.op H')) ∧ drawR P l (push d r e v pend) (e.setO d.o.dst v) H' K
section
variable {P : Program} {a b e : Env} {H H' : Heap} {o : IOper} {v : AV} {r : Bool}
theorem Stp_loc (h : ∀ t ∈ looks o, ∀ v, a.get t = some v → b.get t = some v) (hs : Stp P o a H v H' r) : Stp P o b H v H' r := by
  have ho : ∀ x ∈ opsI o.op, Oof a b x := fun x hx w hw => by
    cases x with
    | k c => exact hw
    | t n => exact h n (by simp only [looks, List.mem_append, usesI, List.mem_flatMap]; exact .inr ⟨_, hx, by simp [odT]⟩) w hw
  unfold Stp at hs ⊢
  split at hs
  · exact ⟨hs.1, opF_loc ho hs.2⟩
  · rename_i g b' hg
    have hgm : g ∈ looks o := by simp [looks, hg]
    rcases hs with ⟨h1, h2, h3⟩ | ⟨h1, h2, h3⟩
    · exact .inl ⟨h1, h g hgm _ h2, opF_loc ho h3⟩
    · exact .inr ⟨h1, h2.imp (h g hgm _) (h g hgm _), h3⟩
theorem Stp_sub (h : Env.sub a b) (hs : Stp P o a H v H' r) : Stp P o b H v H' r := Stp_loc (fun t _ v hv => h t v hv) hs
theorem Stp_heap (hh : isHv o.op = false) (hr : rdI o.op = false) (H2 : Heap) (hs : Stp P o e H v H' r) : Stp P o e H2 v H2 r := by
  unfold Stp at hs ⊢
  split at hs
  · have := opF_light hh hs.2; subst this; exact ⟨hs.1, opF_heap hh hr H2 hs.2⟩
  · rcases hs with ⟨h1, h2, h3⟩ | ⟨h1, h2, h3, h4⟩
    · have := opF_light hh h3; subst this; exact .inl ⟨h1, h2, opF_heap hh hr H2 h3⟩
    · exact .inr ⟨h1, h2, h3, rfl⟩
theorem Stp_light (hh : isHv o.op = false) (hs : Stp P o e H v H' r) : H' = H := by
  unfold Stp at hs
  split at hs
  · exact opF_light hh hs.2
  · rcases hs with ⟨h1, h2, h3⟩ | ⟨h1, h2, h3, h4⟩
    · exact opF_light hh h3
    · exact h4
theorem Stp_skip (hs : Stp P o e H v H' r) (hr : r = false) : H' = H ∧ ∀ H2, Stp P o e H2 v H2 r := by
  unfold Stp at hs ⊢
  subst hr
  split at hs
  · cases hs.1
  · rcases hs with ⟨h1, _⟩ | ⟨h1, h2, h3, h4⟩
    · cases h1
    · exact ⟨h4, fun H2 => .inr ⟨rfl, h2, h3, rfl⟩⟩
theorem Stp_again (hh : isHv o.op = false) (hs : Stp P o e H v H' r) {H2 : Heap} (hq : r = true → ∃ q, q ∧ evF o.op e H2 = some (q, v)) : Stp P o e H2 v H2 r := by
  cases hr : r with
  | false => subst hr; exact (Stp_skip hs rfl).2 H2
  | true =>
    subst hr
    obtain ⟨q, hq, he⟩ := hq rfl
    unfold Stp at hs ⊢
    split at hs
    · exact ⟨rfl, opF_of_ev hh hq he⟩
    · rcases hs with ⟨h1, h2, h3⟩ | ⟨h1, _⟩
      · exact .inl ⟨rfl, h2, opF_of_ev hh hq he⟩
      · cases h1
def Pend.le (p q : Pend) : Prop := ∀ cs H, chkF cs p H → chkF cs q H
theorem Env.sub_setO2 {d d' : Option Nat} {u w : AV} (h : ∀ t, d = some t → d' ≠ some t) : Env.sub ((e.setO d u).setO d' w) ((e.setO d' w).setO d u) := by
  intro t x hx
  cases d with
  | none => exact hx
  | some s =>
    cases d' with
    | none => exact hx
    | some s' =>
      have hne : s ≠ s' := fun q => h s rfl (by rw [q])
      simp only [Env.setO, Env.get_set] at hx ⊢
      by_cases h1 : t = s
      · subst h1; rw [if_neg hne] at hx; rw [if_pos rfl]; simpa using hx
      · rw [if_neg h1]
        by_cases h2 : t = s'
        · subst h2; rw [if_pos rfl] at hx ⊢; exact hx
        · rw [if_neg h2] at hx ⊢; rw [if_neg h1] at hx; exact hx
theorem push_le {d : DOper} {p q : Pend} (h : Pend.le p q) (he : Env.sub a b) : Pend.le (push d r a v p) (push d r b v q) := by
  intro cs H hc
  unfold push at hc ⊢
  split
  · rename_i hr
    rw [if_pos hr] at hc
    exact ⟨fun k => let ⟨x, h1, h2⟩ := hc.1 k; ⟨x, h1, evF_sub he h2⟩, h cs H hc.2⟩
  · rename_i hr
    rw [if_neg hr] at hc
    exact h cs H hc
theorem drawR_mono : ∀ {l : List DOper} {p q : Pend} {a b : Env} {H : Heap} {K : Env → Heap → Prop}, (∀ e e' H, Env.sub e e' → K e H → K e' H) → Pend.le p q → Env.sub a b → drawR P l p a H K → drawR P l q b H K := by
  intro l
  induction l with
  | nil => intro p q a b H K hK _ he h; exact hK _ _ _ he h
  | cons d l ih =>
    intro p q a b H K hK hp he h
    obtain ⟨v, H', r, h1, h2, h3⟩ := h
    exact ⟨v, H', r, Stp_sub he h1, fun k1 k2 => hp _ _ (h2 k1 k2), ih hK (push_le hp he) (Env.sub_setO he _ _) h3⟩
def apartA (x y : IOper) : Bool := match slotI x.op, slotI y.op with
  | some (L, k), some (L', k') => decide (L = L') && !decide (k = k') && x.guard.isNone && y.guard.isNone
  | _, _ => false
def swapOK (x y : DOper) : Bool := apartI x.o y.o && (!(isHv x.o.op && isHv y.o.op) || apartA x.o y.o) && !(isHv x.o.op && rdI y.o.op) && (!(rdI x.o.op && isHv y.o.op) || y.chk.contains x.pos)
theorem apartI_spec {x y : IOper} (h : apartI x y = true) : (∀ t ∈ looks y, writes x t = false) ∧ (∀ t ∈ looks x, writes y t = false) ∧ (∀ t, x.dst = some t → y.dst ≠ some t) := by
  simp only [apartI, Bool.and_eq_true, List.all_eq_true, Bool.not_eq_true'] at h
  refine ⟨h.1.1, h.1.2, fun t ht hy => ?_⟩
  have := h.2
  rw [ht] at this
  simp [writes, hy] at this
theorem get_setO_of {d : Option Nat} {u : AV} {t : Nat} (h : d ≠ some t) : (e.setO d u).get t = e.get t := by
  cases d with
  | none => rfl
  | some s => simp only [Env.setO, Env.get_set]; rw [if_neg (fun q => h (by rw [q]))]
theorem writes_ne {x : IOper} {t : Nat} (h : writes x t = false) : x.dst ≠ some t := by
  intro q; simp [writes, q] at h
theorem slot_op {o : IOp} {L k : Nat} (hs : slotI o = some (L, k)) : isHv o = true ∧ rdI o = false ∧ (∀ H, cutI o H = H.take L) ∧
    ∀ {H H' : Heap} {v : AV}, opF P o e H (fun v' H'' => v' = v ∧ H'' = H') → ∃ b b', H.blk (L + k) = some b ∧ H' = H.set (L + k) (some b') ∧ ∀ H2 : Heap, H2.blk (L + k) = some b → opF P o e H2 fun v' H'' => v' = v ∧ H'' = H2.set (L + k) (some b') := by
  have gen : (∀ f a, o ≠ .call f a) → (∀ f a, o ≠ .callv f a) → (∀ f a, o ≠ .callP f a) → isHv o = true → ∀ {H H' : Heap} {v : AV}, opF P o e H (fun v' H'' => v' = v ∧ H'' = H') → ∃ b b', H.blk (L + k) = some b ∧ H' = H.set (L + k) (some b') ∧ ∀ H2 : Heap, H2.blk (L + k) = some b → opF P o e H2 fun v' H'' => v' = v ∧ H'' = H2.set (L + k) (some b') := by
    intro n1 n2 n3 hh H H' v h
    unfold opF at h ⊢
    split at h
    · exact absurd rfl (n1 _ _)
    · exact absurd rfl (n2 _ _)
    · exact absurd rfl (n3 _ _)
    · rw [if_pos hh] at h
      split at h
      · rename_i p u H1 hr
        obtain ⟨hp, rfl, rfl⟩ := h
        obtain ⟨b, b', g1, g2, g3⟩ := hvF_slot hs hr
        refine ⟨b, b', g1, g2, fun H2 h2 => ?_⟩
        rw [if_pos hh, g3 H2 h2]
        exact ⟨hp, rfl, rfl⟩
      · exact h.elim
  cases o <;> simp only [slotI] at hs <;> try (cases hs; done)
  · cases hs; exact ⟨rfl, rfl, fun _ => rfl, gen (fun _ _ h => by cases h) (fun _ _ h => by cases h) (fun _ _ h => by cases h) rfl⟩
  · cases hs; exact ⟨rfl, rfl, fun _ => rfl, gen (fun _ _ h => by cases h) (fun _ _ h => by cases h) (fun _ _ h => by cases h) rfl⟩
theorem drawR_swap {x y : DOper} {l : List DOper} {p : Pend} {K : Env → Heap → Prop} (hK : ∀ e e' H, Env.sub e e' → K e H → K e' H) (hs : swapOK x y = true) (h : drawR P (x :: y :: l) p e H K) : drawR P (y :: x :: l) p e H K := by
  simp only [swapOK, Bool.and_eq_true, Bool.not_eq_true', Bool.or_eq_true] at hs
  obtain ⟨⟨⟨hap, hhh⟩, hhr⟩, hrh⟩ := hs
  obtain ⟨a1, a2, a3⟩ := apartI_spec hap
  obtain ⟨vx, H1, rx, sx, cx, vy, H2, ry, sy, cy, hl⟩ := h
  have sy' : Stp P y.o e H1 vy H2 ry := Stp_loc (fun t ht v hv => by rw [get_setO_of (writes_ne (a1 t ht))] at hv; exact hv) sy
  have lx : ∀ {H H' : Heap} {v : AV} {r : Bool}, Stp P x.o e H v H' r → Stp P x.o (e.setO y.o.dst vy) H v H' r := fun s => Stp_loc (fun t ht v hv => by rw [get_setO_of (writes_ne (a2 t ht))]; exact hv) s
  have fin : ∀ (H1' : Heap), Stp P y.o e H vy H1' ry → (ry = true → isHv y.o.op = true → chkF y.chk p (cutI y.o.op H1')) → Stp P x.o (e.setO y.o.dst vy) H1' vx H2 rx → (rx = true → isHv x.o.op = true → chkF x.chk (push y ry e vy p) (cutI x.o.op H2)) → drawR P (y :: x :: l) p e H K := by
    intro H1' k1 k2 k3 k4
    refine ⟨vy, H1', ry, k1, k2, vx, H2, rx, k3, k4, drawR_mono hK ?_ (Env.sub_setO2 a3) hl⟩
    intro cs Hc hc
    have e1 : ∀ {q : Prop × AV} {Hq : Heap}, evF y.o.op (e.setO x.o.dst vx) Hq = some q → evF y.o.op e Hq = some q := fun {q Hq} hq => evF_loc (fun z hz u hu => by
      cases z with
      | k c => exact hu
      | t n =>
        have hn : n ∈ looks y.o := by simp only [looks, List.mem_append, usesI, List.mem_flatMap]; exact .inr ⟨_, hz, by simp [odT]⟩
        simp only [Env.opd] at hu ⊢
        rw [get_setO_of (writes_ne (a1 n hn))] at hu; exact hu) hq
    have e2 : ∀ {q : Prop × AV} {Hq : Heap}, evF x.o.op e Hq = some q → evF x.o.op (e.setO y.o.dst vy) Hq = some q := fun {q Hq} hq => evF_loc (fun z hz u hu => by
      cases z with
      | k c => exact hu
      | t n =>
        have hn : n ∈ looks x.o := by simp only [looks, List.mem_append, usesI, List.mem_flatMap]; exact .inr ⟨_, hz, by simp [odT]⟩
        simp only [Env.opd] at hu ⊢
        rw [get_setO_of (writes_ne (a2 n hn))]; exact hu) hq
    unfold push at hc ⊢
    cases hx : (rx && rdI x.o.op) <;> cases hy : (ry && rdI y.o.op) <;> simp only [hx, hy, if_true, Bool.false_eq_true, if_false, chkF] at hc ⊢
    · exact hc
    · exact ⟨fun k => let ⟨q, q1, q2⟩ := hc.1 k; ⟨q, q1, e1 q2⟩, hc.2⟩
    · exact ⟨fun k => let ⟨q, q1, q2⟩ := hc.1 k; ⟨q, q1, e2 q2⟩, hc.2⟩
    · exact ⟨fun k => let ⟨q, q1, q2⟩ := hc.2.1 k; ⟨q, q1, e2 q2⟩, fun k => let ⟨q, q1, q2⟩ := hc.1 k; ⟨q, q1, e1 q2⟩, hc.2.2⟩
  cases hAp : apartA x.o y.o with
  | true =>
    unfold apartA at hAp
    split at hAp <;> try (cases hAp; done)
    rename_i L kx L' ky hsx hsy
    simp only [Bool.and_eq_true, decide_eq_true_eq, Bool.not_eq_true', decide_eq_false_iff_not, Option.isNone_iff_eq_none] at hAp
    obtain ⟨⟨⟨rfl, hk⟩, gx⟩, gy⟩ := hAp
    obtain ⟨hhx, hrx, hcx, ax⟩ := slot_op (P := P) (e := e) hsx
    obtain ⟨hhy, hry, hcy, ay⟩ := slot_op (P := P) (e := e) hsy
    have sx2 := sx
    have sy2 := sy'
    unfold Stp at sx2 sy2
    simp only [gx] at sx2
    simp only [gy] at sy2
    obtain ⟨rfl, sx2⟩ := sx2
    obtain ⟨rfl, sy2⟩ := sy2
    obtain ⟨b1, b1', k1, rfl, k3⟩ := ax sx2
    obtain ⟨b2, b2', m1, rfl, m3⟩ := ay sy2
    have hne : L + kx ≠ L + ky := by omega
    have m1' : H.blk (L + ky) = some b2 := by simpa [Heap.blk, List.getElem?_set, hk] using m1
    have k1' : Heap.blk (H.set (L + ky) (some b2')) (L + kx) = some b1 := by simpa [Heap.blk, List.getElem?_set, Ne.symm hk] using k1
    have ht : ∀ (G : Heap) (i : Nat) (z : Option Blk), (G.set (L + i) z).take L = G.take L := fun G i z => List.take_set_of_le (by omega)
    have py : push y true e vy p = p := by simp [push, hry]
    have px : push x true e vx p = p := by simp [push, hrx]
    rw [px] at cy
    refine fin (H.set (L + ky) (some b2')) ?_ (fun k1 k2 => ?_) (lx ?_) (fun k1 k2 => ?_)
    · unfold Stp; simp only [gy]; exact ⟨trivial, m3 H m1'⟩
    · have := cy k1 k2
      rw [hcy, ht] at this ⊢
      rw [ht] at this
      exact this
    · unfold Stp; simp only [gx]; exact ⟨trivial, by rw [List.set_comm _ _ hne]; exact k3 _ k1'⟩
    · rw [py]
      have := cx k1 k2
      rw [hcx, ht] at this ⊢
      rw [ht]
      exact this
  | false =>
  rw [hAp] at hhh
  simp only [Bool.false_eq_true, or_false] at hhh
  cases hx : isHv x.o.op with
  | true =>
    have hy : isHv y.o.op = false := by rw [hx] at hhh; simpa using hhh
    have hyr : rdI y.o.op = false := by rw [hx] at hhr; simpa using hhr
    have := Stp_light hy sy'; subst this
    refine fin H (Stp_heap hy hyr H sy') (fun _ k => absurd k (by simp [hy])) (lx sx) (fun k1 k2 => ?_)
    have : push y ry e vy p = p := by simp [push, hyr]
    rw [this]
    exact cx k1 k2
  | false =>
    have := Stp_light hx sx; subst this
    cases hxr : rdI x.o.op with
    | false =>
      refine fin H2 sy' (fun k1 k2 => ?_) (lx (Stp_heap hx hxr H2 sx)) (fun _ k => absurd k (by simp [hx]))
      have : push x rx e vx p = p := by simp [push, hxr]
      have hc := cy k1 k2
      rw [this] at hc
      exact hc
    | true =>
      refine fin H2 sy' (fun k1 k2 => ?_) (lx (Stp_again hx sx fun hr => ?_)) (fun _ k => absurd k (by simp [hx]))
      · have hc := cy k1 k2
        unfold push at hc
        split at hc
        · exact hc.2
        · exact hc
      · cases hyh : isHv y.o.op with
        | false =>
          have := Stp_light hyh sy'; subst this
          unfold Stp at sx
          split at sx
          · exact opF_ev hx hxr sx.2
          · rcases sx with ⟨k1, k2, k3⟩ | ⟨k1, _⟩
            · exact opF_ev hx hxr k3
            · rw [hr] at k1; cases k1
        | true =>
          cases hry : ry with
          | false =>
            subst hry
            obtain ⟨h0, _⟩ := Stp_skip sy' rfl
            subst h0
            unfold Stp at sx
            split at sx
            · exact opF_ev hx hxr sx.2
            · rcases sx with ⟨k1, k2, k3⟩ | ⟨k1, _⟩
              · exact opF_ev hx hxr k3
              · rw [hr] at k1; cases k1
          | true =>
            have hc := cy hry hyh
            have hm : y.chk.contains x.pos = true := by
              rcases hrh with h | h
              · rw [hxr, hyh] at h; cases h
              · exact h
            unfold push at hc
            rw [if_pos (by simp [hr, hxr])] at hc
            obtain ⟨q, q1, q2⟩ := hc.1 hm; exact ⟨q, q1, evF_cut (fun _ _ hb => blk_cutI hb) q2⟩
theorem drawR_front {l1 : List DOper} : ∀ {d : DOper} {l2 : List DOper} {p : Pend} {e : Env} {H : Heap} {K : Env → Heap → Prop}, (∀ e e' H, Env.sub e e' → K e H → K e' H) → (∀ x ∈ l1, swapOK x d = true) → drawR P (l1 ++ d :: l2) p e H K → drawR P (d :: (l1 ++ l2)) p e H K := by
  induction l1 with
  | nil => intro d l2 p e H K _ _ h; exact h
  | cons x l1 ih =>
    intro d l2 p e H K hK hs h
    refine drawR_swap hK (hs x (by simp)) ?_
    obtain ⟨v, H', r, h1, h2, h3⟩ := h
    exact ⟨v, H', r, h1, h2, ih hK (fun y hy => hs y (by simp [hy])) h3⟩
end
def drawF (P : Program) : List DOper → Pend → Env → Heap → (Env → Heap → Prop) → Prop
  | [], _, e, H, K => K e H
  | d :: l, p, e, H, K => match d.o.guard with
    | none => opF P d.o.op e H fun v H' => (isHv d.o.op = true → chkF d.chk p (cutI d.o.op H')) ∧ drawF P l (push d true e v p) (e.setO d.o.dst v) H' K
    | some (g, b) => grd (e.get g) b (opF P d.o.op (e.set g (.bool b)) H fun v H' => (isHv d.o.op = true → chkF d.chk p (cutI d.o.op H')) ∧ drawF P l (push d true (e.set g (.bool b)) v p) ((e.set g (.bool b)).setO d.o.dst v) H' K)
        (drawF P l p ((e.set g (.bool (!b))).setO d.o.dst (.tuple [])) H K) (drawF P l p (e.setO d.o.dst (.tuple [])) H K)
theorem Env.set_same {e : Env} {g : Nat} {v : AV} (h : e.get g = some v) : Env.sub (e.set g v) e := fun t x hx => by
  rw [Env.get_set] at hx
  split at hx
  · rename_i q; subst q; cases hx; exact h
  · exact hx
theorem opF_sub {P : Program} {o : IOp} {a b : Env} (h : Env.sub a b) {H : Heap} {K : AV → Heap → Prop} (hf : opF P o a H K) : opF P o b H K :=
  opF_loc (fun _ _ _ hw => Env.sub_opd h hw) hf
theorem Pend.le_refl (p : Pend) : Pend.le p p := fun _ _ h => h
theorem drawF_R {P : Program} : ∀ {l : List DOper} {p : Pend} {e : Env} {H : Heap} {K : Env → Heap → Prop}, (∀ e e' H, Env.sub e e' → K e H → K e' H) → drawF P l p e H K → drawR P l p e H K := by
  intro l
  induction l with
  | nil => intro p e H K _ h; exact h
  | cons d l ih =>
    intro p e H K hK h
    simp only [drawF] at h
    cases hg : d.o.guard with
    | none =>
      rw [hg] at h
      obtain ⟨v, H', ⟨h1, h2⟩, h3⟩ := opF_det h
      exact ⟨v, H', true, by unfold Stp; rw [hg]; exact ⟨rfl, h3⟩, fun _ => h1, ih hK h2⟩
    | some gb =>
      obtain ⟨g, b⟩ := gb
      rw [hg] at h
      simp only [grd] at h
      split at h
      · rename_i c hc
        by_cases hcb : c = b
        · subst hcb
          obtain ⟨v, H', ⟨h1, h2⟩, h3⟩ := opF_det (h.1 rfl)
          have hs := Env.set_same hc
          exact ⟨v, H', true, by unfold Stp; rw [hg]; exact .inl ⟨rfl, hc, opF_sub hs h3⟩, fun _ => h1, drawR_mono hK (push_le (Pend.le_refl _) hs) (Env.sub_setO hs _ _) (ih hK h2)⟩
        · have hcb' : c = !b := by cases c <;> cases b <;> simp_all
          subst hcb'
          have hs := Env.set_same hc
          exact ⟨.tuple [], H, false, by unfold Stp; rw [hg]; exact .inr ⟨rfl, .inl hc, rfl, rfl⟩, (fun k => by cases k), drawR_mono hK (Pend.le_refl _) (Env.sub_setO hs _ _) (by simpa [push] using ih hK (h.2 rfl))⟩
      · rename_i hc
        exact ⟨.tuple [], H, false, by unfold Stp; rw [hg]; exact .inr ⟨rfl, .inr hc, rfl, rfl⟩, (fun k => by cases k), by simpa [push] using ih hK h⟩
      · exact h.elim
end Go.Fw
namespace Go.Fw
inductive ICode where
  | skip
  | reg (ops : List IOper)
  | draw (ops : List DOper)
  | drawP (L m : Nat) (ops : List DOper)
  | seq (a b : ICode)
  | cond (c : Opd) (a b : ICode)
  | block (id : Nat) (c : ICode)
  | loop (c : ICode)
  | exit (id : Nat)
  | ret
  deriving Inhabited
inductive IExit where
  | normal
  | exit (id : Nat)
  | ret
abbrev Post := IExit → Env → Heap → Prop
def regWP (P : Program) : List IOper → Env → Heap → (Env → Heap → Prop) → Prop
  | [], e, H, K => K e H
  | o :: l, e, H, K => match o.guard with
    | none => opWP P o.op e H fun v H' => regWP P l (e.setO o.dst v) H' K
    | some (g, b) => match e.get g with
      | some (.bool c) => (c = b → opWP P o.op (e.set g (.bool b)) H fun v H' => regWP P l ((e.set g (.bool b)).setO o.dst v) H' K) ∧
          (c = !b → regWP P l ((e.set g (.bool (!b))).setO o.dst (.tuple [])) H K)
      | some (.tuple []) => regWP P l (e.setO o.dst (.tuple [])) H K
      | _ => False
mutual
def AV.ltI (n : Nat) : AV → Bool
  | .ptr id _ => decide (id < n)
  | .slice _ id _ _ _ => decide (id < n)
  | .list _ _ xs => ltL n xs
  | .rptr _ xs => ltL n xs
  | .agg xs => ltL n xs
  | .tuple xs => ltL n xs
  | .func _ a b => ltL n a && ltL n b
  | .iface _ v => AV.ltI n v
  | .bool _ => true
  | .int _ _ => true
  | .str _ => true
  | .nil => true
  | .nilFunc => true
  | .nilIface => true
  | .map _ _ => true
def ltL (n : Nat) : List AV → Bool
  | [] => true
  | x :: l => AV.ltI n x && ltL n l
end
def leH (n : Nat) : Heap → Heap → Prop
  | [], _ => True
  | none :: l, _ :: m => leH n l m
  | some b :: l, some c :: m => b = c ∧ ltL n b.cells = true ∧ leH n l m
  | _, _ => False
def Env.lt (n : Nat) : Env → Bool
  | [] => true
  | (_, v) :: l => AV.ltI n v && Env.lt n l
def Env.has : Env → Env → Prop
  | [], _ => True
  | (t, v) :: l, e => e.get t = some v ∧ Env.has l e
def hasR (σ : List Nat) : Env → Env → Prop
  | [], _ => True
  | (t, v) :: l, e => (∃ x, e.get t = some x ∧ x.ids (fun k => σ.contains k) = true ∧ x.ren (bwd σ) = v) ∧ hasR σ l e
def leR (σ : List Nat) (H : Heap) : List Nat → Heap → Prop
  | [], H0 => H0 = []
  | _ :: ks, none :: H0 => leR σ H ks H0
  | k :: ks, some b :: H0 => (∃ x, H.blk k = some x ∧ idsL (fun k => σ.contains k) x.cells = true ∧ Blk.ren (bwd σ) x = b) ∧ leR σ H ks H0
  | _ :: _, [] => False
def ownDef : Op → Bool
  | .call _ => true
  | _ => false
def lowGuard (ops : Array Oper) : Option (Nat × Bool) → Option (Option (Nat × Bool))
  | none => some none
  | some (j, b) => match (ops[j]?).bind (·.dst) with
    | some d => some (some (d, b))
    | none => none
def dstOk (n : Nat) : Option Nat → Bool
  | none => true
  | some d => decide (d < n)
def lowOps (P : Program) (n : Nat) (fl : List (Nat × Nat)) (rid : Nat) (ops : Array Oper) : List Oper → Nat → Option (List IOper)
  | [], _ => some []
  | o :: l, i => match lowOp P (if fl.contains (rid, i) then !(ownDef o.op) else ownDef o.op) o.op, lowGuard ops o.guard, lowOps P n fl rid ops l (i + 1) with
    | some op, some g, some r => if dstOk n o.dst then some (⟨o.dst, g, op⟩ :: r) else none
    | _, _, _ => none
def edgesOf (ops : Array Oper) (i : Nat) : List Nat := match ops[i]? with
  | some o => (o.after.toList.filter (Region.binds .any ·)).map (·.on)
  | none => []
def lookL : List (Nat × List Nat) → Nat → List Nat
  | [], _ => []
  | (k, s) :: l, j => if k = j then s else lookL l j
def addL : List Nat → List Nat → List Nat
  | [], s => s
  | x :: l, s => if s.contains x then addL l s else x :: addL l s
def ancL (acc : List (Nat × List Nat)) : List Nat → List Nat
  | [] => []
  | j :: l => addL (j :: lookL acc j) (ancL acc l)
def ancsOf (ops : Array Oper) : List Nat → List (Nat × List Nat) → List (Nat × List Nat)
  | [], acc => acc
  | i :: l, acc => ancsOf ops l ((i, ancL acc (edgesOf ops i)) :: acc)
def mkD (il : List IOper) (anc : List (Nat × List Nat)) : List Nat → List Nat → Option (List DOper)
  | [], _ => some []
  | i :: l, rds => match il[i]? with
    | some io => (mkD il anc l (if rdI io.op then i :: rds else rds)).map (⟨io, i, if isHv io.op then rds.filter (fun j => !(lookL anc i).contains j) else []⟩ :: ·)
    | none => none
def pairOK (ops : Array Oper) (anc : List (Nat × List Nat)) (x y : DOper) : Bool := ((lookL anc y.pos).contains x.pos || swapOK x y) && !(edgesOf ops x.pos).contains y.pos && !(x.pos == y.pos)
def pairsOK (ops : Array Oper) (anc : List (Nat × List Nat)) : List DOper → Bool
  | [] => true
  | x :: l => l.all (pairOK ops anc x) && pairsOK ops anc l
def drawOK (ops : Array Oper) (anc : List (Nat × List Nat)) (l : List DOper) : Bool :=
  pairsOK ops anc l && (List.range ops.size).all (fun i => (l.map (·.pos)).contains i) && decide (l.length ≤ ops.size) &&
    l.all fun d => decide (d.pos < ops.size) && (edgesOf ops d.pos).all fun j => decide (j < ops.size) && !(j == d.pos)
def lowDraw (ops : Array Oper) (il : List IOper) (od : List Nat) : Option (List DOper) :=
  match mkD il (ancsOf ops od []) od [] with
  | some l => if drawOK ops (ancsOf ops od []) l then some l else none
  | none => none
def aftI (L k : Nat) : IOp → Option IOp
  | .alloc T z => some (.allocA L k T z)
  | .makeS T s by_ z l c => some (.makeA L k T s by_ z l c)
  | _ => none
def aftL (L : Nat) : List Nat → Nat → List IOper → Option (List IOper)
  | [], _, il => some il
  | i :: is, k, il => match il[i]? with
    | some io => match aftI L k io.op with
      | some o => aftL L is (k + 1) (il.set i ⟨io.dst, io.guard, o⟩)
      | none => none
    | none => none
def orderOf (od : List (Nat × List Nat)) (id n : Nat) : List Nat := match lookL od id with
  | [] => List.range n
  | l => l
def lowCode (P : Program) (n : Nat) (fl : List (Nat × Nat)) (od : List (Nat × List Nat)) : Code → Option ICode
  | .skip => some .skip
  | .region id ops d => match lowOps P n fl id ops ops.toList 0 with
    | some l => if d then (if P.follows .mixedOrders then (match lookL od (1000000 + id) with
        | [] => (lowDraw ops l (orderOf od id ops.size)).map .draw
        | L :: is => match aftL L is 0 l with
          | some l' => (lowDraw ops l' (orderOf od id ops.size)).map (.drawP L is.length)
          | none => none) else none) else some (.reg l)
    | none => none
  | .seq a b => match lowCode P n fl od a, lowCode P n fl od b with
    | some x, some y => some (.seq x y)
    | _, _ => none
  | .cond c a b => match lowO c, lowCode P n fl od a, lowCode P n fl od b with
    | some z, some x, some y => some (.cond z x y)
    | _, _, _ => none
  | .block id c => (lowCode P n fl od c).map (.block id)
  | .loop c => (lowCode P n fl od c).map .loop
  | .exit id => some (.exit id)
  | .ret => some .ret
  | _ => none
section
variable {P : Program} {ro bo fr : Mem} {Φ : Emb} {e : Env} {H : Heap} {a : Act} {w w' : World}
structure St (n : Nat) (ro bo : Mem) (Φ : Emb) (e : Env) (a : Act) : Prop where
  size : a.tmps.size = n
  defers : a.defers = []
  env : EnvOK ro bo Φ e a
theorem EnvOK.mono {ro' : Mem} {Φ' : Emb} (h : EnvOK ro bo Φ e a) (hr : Mem.le ro ro') (hΦ : Emb.le Φ Φ') : EnvOK ro' bo Φ' e a := fun t v ht =>
  let ⟨u, h1, h2⟩ := h t v ht
  ⟨u, h1, h2.mono hr (Mem.le_refl _) hΦ⟩
theorem St.mono {n : Nat} {ro' : Mem} {Φ' : Emb} (h : St n ro bo Φ e a) (hr : Mem.le ro ro') (hΦ : Emb.le Φ Φ') : St n ro' bo Φ' e a := ⟨h.size, h.defers, h.env.mono hr hΦ⟩
theorem St.put {n : Nat} (h : St n ro bo Φ e a) {d : Option Nat} (hd : dstOk n d = true) {v : AV} {u : Value} (hv : VR ro bo Φ v u) : St n ro bo Φ (e.setO d v) (a.put d u) := by
  cases d with
  | none => exact h
  | some d =>
    simp only [dstOk, decide_eq_true_eq] at hd
    refine ⟨by simp [Act.put, h.size], by simpa [Act.put] using h.defers, fun t x ht => ?_⟩
    simp only [Env.setO, Env.get_set] at ht
    split at ht
    · rename_i e; subst e; cases ht
      exact ⟨u, by simp [Act.put, h.size, hd], hv⟩
    · rename_i hne
      obtain ⟨u', h1, h2⟩ := h.env t x ht
      exact ⟨u', by simp only [Act.put]; rw [Array.getElem?_setIfInBounds_ne (Ne.symm hne)]; exact h1, h2⟩
theorem St.set_same {n : Nat} (h : St n ro bo Φ e a) {t : Nat} {v v' : AV} (hg : e.get t = some v) (hv : v = v') : St n ro bo Φ (e.set t v') a :=
  ⟨h.size, h.defers, fun s x hs => by
    rw [Env.get_set] at hs
    split at hs
    · rename_i e'; subst e'; cases hs; subst hv; exact h.env _ _ hg
    · exact h.env s x hs⟩
def Cpost (n : Nat) (ro bo fr : Mem) (Φ : Emb) (w : World) (K : Env → Heap → Prop) (a' : Act) (w' : World) : Prop :=
  ∃ e' H' ro' Φ', K e' H' ∧ St n ro' bo Φ' e' a' ∧ Holds ro' fr Φ' H' w' ∧ Mem.le ro ro' ∧ Emb.le Φ Φ' ∧ WExt w w'
theorem Cpost.trans {n : Nat} {ro1 : Mem} {Φ1 : Emb} {w1 : World} {K : Env → Heap → Prop} {a' : Act} {w' : World} (h : Cpost n ro1 bo fr Φ1 w1 K a' w') (hr : Mem.le ro ro1) (hΦ : Emb.le Φ Φ1) (hw : WExt w w1) : Cpost n ro bo fr Φ w K a' w' := by
  obtain ⟨e', H', ro', Φ', h1, h2, h3, h4, h5, h6⟩ := h
  exact ⟨e', H', ro', Φ', h1, h2, h3, Mem.le_trans hr h4, Emb.le_trans hΦ h5, hw.trans h6⟩
theorem op_sound {own : Bool} {o : Oper} {io io0 : IOp} (hl : lowOp P own o.op = some io0) (ha : io0 = io ∨ Aft io0 io) (hE : EnvOK ro bo Φ e a) (hH : Holds ro fr Φ H w) (hb : Mem.le bo fr) {K : AV → Heap → Prop} (h : opWP P io e H K) {Q : Exit → Act → World → Prop} :
    o.wp P a w (Hpost ro bo fr Φ w a o.dst K) Q := by
  rcases ha with rfl | ha
  case inr => exact aft_sound hl ha hE hH h
  unfold opWP at h
  split at h
  · exact callP_sound hl hE hH hb h
  split at h
  · exact hv_sound hl (by assumption) hE hH hb h
  · rename_i hh
    obtain ⟨v, u, ro', w', g1, g2, g3, g4, g5, g6⟩ := ev_sound hl (by simpa using hh) hE hH hb h
    unfold Oper.wp
    rw [g2, Oper.upon_value]
    exact ⟨v, u, H, ro', Φ, g1, rfl, g3, g4, g5, Emb.le_refl _, g6⟩
theorem yielded_of {ops : Array Oper} {j d : Nat} (hd : (ops[j]?).bind (·.dst) = some d) {tmps : Array Value} {u : Value} (hu : tmps[d]? = some u) : yielded ops tmps j = match u with | .bool b => some b | _ => none := by
  simp only [yielded, hd, Option.bind_some, hu]
  cases u <;> rfl
theorem reg_step {n : Nat} {ops : Array Oper} {own : Bool} {o : Oper} {io io0 : IOp} {g : Option (Nat × Bool)} {l : List IOper} (hl : lowOp P own o.op = some io0) (ha : io0 = io ∨ Aft io0 io) (hg : lowGuard ops o.guard = some g) (hd : dstOk n o.dst = true) (hS : St n ro bo Φ e a) (hH : Holds ro fr Φ H w) (hb : Mem.le bo fr)
    {K : Env → Heap → Prop} (h : regWP P (⟨o.dst, g, io⟩ :: l) e H K) {Q : Exit → Act → World → Prop} :
    if Region.wanted o (yielded ops a.tmps) then o.wp P a w (Cpost n ro bo fr Φ w (fun e' H' => regWP P l e' H' K)) Q else Cpost n ro bo fr Φ w (fun e' H' => regWP P l e' H' K) (a.put o.dst undef) w := by
  have run : ∀ {e : Env}, St n ro bo Φ e a → opWP P io e H (fun v H' => regWP P l (e.setO o.dst v) H' K) → o.wp P a w (Cpost n ro bo fr Φ w (fun e' H' => regWP P l e' H' K)) Q := by
    intro e hS h
    refine Oper.wp_mono ?_ (op_sound hl ha hS.env hH hb h)
    rintro a' w' ⟨v, u, H', ro', Φ', g1, rfl, g3, g4, g5, g6, g7⟩
    exact ⟨_, H', ro', Φ', g1, (hS.mono g5 g6).put hd g3, g4, g5, g6, g7⟩
  have skip : ∀ {e : Env}, St n ro bo Φ e a → regWP P l (e.setO o.dst (.tuple [])) H K → Cpost n ro bo fr Φ w (fun e' H' => regWP P l e' H' K) (a.put o.dst undef) w := by
    intro e hS h
    exact ⟨_, H, ro, Φ, h, hS.put hd (.tuple _ _ rfl (by simp)), hH, Mem.le_refl _, Emb.le_refl _, WExt.refl _⟩
  cases hgd : o.guard with
  | none =>
    rw [hgd] at hg
    simp only [lowGuard, Option.some.injEq] at hg
    subst hg
    rw [if_pos (by simp [Region.wanted, hgd])]
    exact run hS h
  | some jb =>
    obtain ⟨j, b⟩ := jb
    rw [hgd] at hg
    simp only [lowGuard] at hg
    cases hdj : (ops[j]?).bind (·.dst) with
    | none => rw [hdj] at hg; cases hg
    | some d =>
      rw [hdj] at hg
      simp only [Option.some.injEq] at hg
      subst hg
      simp only [regWP] at h
      cases hgt : e.get d with
      | none => rw [hgt] at h; exact h.elim
      | some v =>
        rw [hgt] at h
        obtain ⟨u, hu, hV⟩ := hS.env d v hgt
        have hy := yielded_of hdj hu
        cases v <;> try exact h.elim
        case bool c =>
          have := hV.bool_inv; subst this
          have hw : Region.wanted o (yielded ops a.tmps) = (c == b) := by simp [Region.wanted, hgd, hy]
          rw [hw]
          by_cases hcb : c = b
          · subst hcb
            simp only [beq_self_eq_true, if_true]
            exact run (hS.set_same hgt rfl) (h.1 rfl)
          · have hcb' : c = !b := by cases c <;> cases b <;> simp_all
            have : (c == b) = false := by simpa using hcb
            rw [this]
            simp only [Bool.false_eq_true, if_false]
            exact skip (hS.set_same hgt (by rw [hcb'])) (h.2 hcb')
        case tuple xs =>
          cases xs with
          | cons x xs => exact h.elim
          | nil =>
            have hun : yielded ops a.tmps j = none := by
              rw [hy]
              cases hV; rfl
            have hw : Region.wanted o (yielded ops a.tmps) = false := by simp [Region.wanted, hgd, hun]
            rw [hw]
            simp only [Bool.false_eq_true, if_false]
            exact skip hS h
theorem reg_sound {n rid : Nat} {fl : List (Nat × Nat)} {ops : Array Oper} (hb : Mem.le bo fr) {K : Env → Heap → Prop} {Q : Exit → Act → World → Prop} : ∀ (l : List Oper) (i : Nat) (il : List IOper) (ro : Mem) (Φ : Emb) (e : Env) (H : Heap) (a : Act) (w : World), lowOps P n fl rid ops l i = some il →
    St n ro bo Φ e a → Holds ro fr Φ H w → regWP P il e H K → (∀ a' w', Cpost n ro bo fr Φ w K a' w' → Q .normal a' w') → wpList P ops Q l a w := by
  intro l
  induction l with
  | nil =>
    intro i il ro Φ e H a w hl hS hH h hQ
    simp [lowOps] at hl; subst hl
    exact hQ a w ⟨e, H, ro, Φ, h, hS, hH, Mem.le_refl _, Emb.le_refl _, WExt.refl _⟩
  | cons o l ih =>
    intro i il ro Φ e H a w hl hS hH h hQ
    simp only [lowOps] at hl
    split at hl
    · rename_i io g r h1 h2 h3
      split at hl
      · rename_i hd
        cases hl
        refine wpList_step fun K' hK' => ?_
        have := reg_step (Q := Q) h1 (.inl rfl) h2 hd hS hH hb h
        have key : ∀ a' w', Cpost n ro bo fr Φ w (fun e' H' => regWP P r e' H' K) a' w' → K' a' w' := by
          rintro a' w' ⟨e', H', ro', Φ', g1, g2, g3, g4, g5, g6⟩
          exact hK' a' w' (ih (i + 1) r ro' Φ' e' H' a' w' h3 g2 g3 g1 fun a'' w'' hc => hQ a'' w'' (hc.trans g4 g5 g6))
        split
        · rename_i hw; rw [if_pos hw] at this; exact Oper.wp_mono key this
        · rename_i hw; rw [if_neg hw] at this; exact key _ _ this
      · cases hl
    · cases hl
inductive Bef (ops : Array Oper) : Nat → Nat → Prop
  | edge {i j : Nat} (h : i ∈ edgesOf ops j) : Bef ops i j
  | step {i k j : Nat} (h : Bef ops i k) (g : k ∈ edgesOf ops j) : Bef ops i j
theorem mem_addL {x : Nat} : ∀ {l s : List Nat}, x ∈ addL l s → x ∈ l ∨ x ∈ s
  | [], s, h => .inr h
  | y :: l, s, h => by
    simp only [addL] at h
    split at h
    · exact (mem_addL h).imp (fun k => by simp [k]) (fun k => k)
    · rcases List.mem_cons.1 h with rfl | h
      · simp
      · exact (mem_addL h).imp (fun k => by simp [k]) (fun k => k)
theorem mem_ancL {ops : Array Oper} {acc : List (Nat × List Nat)} (ha : ∀ k i, i ∈ lookL acc k → Bef ops i k) {j x : Nat} : ∀ {l : List Nat}, (∀ y ∈ l, y ∈ edgesOf ops j) → x ∈ ancL acc l → Bef ops x j
  | [], _, h => by simp [ancL] at h
  | y :: l, hl, h => by
    simp only [ancL] at h
    rcases mem_addL h with h | h
    · rcases List.mem_cons.1 h with rfl | h
      · exact .edge (hl _ (by simp))
      · exact .step (ha _ _ h) (hl y (by simp))
    · exact mem_ancL ha (fun z hz => hl z (by simp [hz])) h
theorem mem_ancsOf {ops : Array Oper} : ∀ {l : List Nat} {acc : List (Nat × List Nat)}, (∀ k i, i ∈ lookL acc k → Bef ops i k) → ∀ k i, i ∈ lookL (ancsOf ops l acc) k → Bef ops i k
  | [], acc, ha, k, i, h => ha k i h
  | j :: l, acc, ha, k, i, h => mem_ancsOf (acc := (j, ancL acc (edgesOf ops j)) :: acc) (fun k i hi => by
      simp only [lookL] at hi
      split at hi
      · rename_i e; subst e; exact mem_ancL ha (fun y hy => hy) hi
      · exact ha k i hi) k i h
def Low (P : Program) (n : Nat) (ops : Array Oper) (d : DOper) : Prop := ∃ o own io, ops[d.pos]? = some o ∧ lowOp P own o.op = some io ∧ (io = d.o.op ∨ Aft io d.o.op) ∧ lowGuard ops o.guard = some d.o.guard ∧ dstOk n o.dst = true ∧ d.o.dst = o.dst
theorem lowOps_get {n rid : Nat} {fl : List (Nat × Nat)} {ops : Array Oper} : ∀ {l : List Oper} {i : Nat} {il : List IOper}, lowOps P n fl rid ops l i = some il → ∀ (k : Nat) (io : IOper), il[k]? = some io →
    ∃ o own, l[k]? = some o ∧ lowOp P own o.op = some io.op ∧ lowGuard ops o.guard = some io.guard ∧ dstOk n o.dst = true ∧ io.dst = o.dst
  | [], i, il, h, k, io, hk => by simp [lowOps] at h; subst h; simp at hk
  | o :: l, i, il, h, k, io, hk => by
    simp only [lowOps] at h
    split at h
    · rename_i io' g r h1 h2 h3
      split at h
      · rename_i hd
        cases h
        cases k with
        | zero => simp at hk; subst hk; exact ⟨o, _, rfl, h1, h2, hd, rfl⟩
        | succ k => exact lowOps_get h3 k io (by simpa using hk)
      · cases h
    · cases h
def LowL (P : Program) (n : Nat) (ops : Array Oper) (il : List IOper) : Prop := ∀ (k : Nat) (io : IOper), il[k]? = some io → ∃ o own io0, ops[k]? = some o ∧ lowOp P own o.op = some io0 ∧ (io0 = io.op ∨ Aft io0 io.op) ∧ lowGuard ops o.guard = some io.guard ∧ dstOk n o.dst = true ∧ io.dst = o.dst
theorem LowL_of {n rid : Nat} {fl : List (Nat × Nat)} {ops : Array Oper} {il : List IOper} (hl : lowOps P n fl rid ops ops.toList 0 = some il) : LowL P n ops il := fun k io hk =>
  let ⟨o, own, g1, g2, g3, g4, g5⟩ := lowOps_get hl k io hk
  ⟨o, own, io.op, by simpa using g1, g2, .inl rfl, g3, g4, g5⟩
theorem aftI_spec {L k : Nat} {a b : IOp} (h : aftI L k a = some b) : Aft a b ∧ ∀ c, ¬ Aft c a := by
  cases a <;> simp only [aftI] at h <;> try (cases h; done)
  · cases h; exact ⟨.alloc _ _ _ _, fun c hc => by cases hc⟩
  · cases h; exact ⟨.makeS _ _ _ _ _ _ _ _, fun c hc => by cases hc⟩
theorem LowL_aft {n L : Nat} {ops : Array Oper} : ∀ {is : List Nat} {k : Nat} {il il' : List IOper}, LowL P n ops il → aftL L is k il = some il' → LowL P n ops il'
  | [], k, il, il', h, ha => by simp [aftL] at ha; subst ha; exact h
  | i :: is, k, il, il', h, ha => by
    simp only [aftL] at ha
    split at ha
    · rename_i io hio
      split at ha
      · rename_i o ho
        refine LowL_aft (fun j io' hj => ?_) ha
        rw [List.getElem?_set] at hj
        split at hj
        · rename_i e; subst e
          split at hj <;> cases hj
          obtain ⟨q1, q2⟩ := aftI_spec ho
          obtain ⟨p, own, io0, g1, g2, g3, g4⟩ := h _ _ hio
          rcases g3 with rfl | g3
          · exact ⟨p, own, _, g1, g2, .inr q1, g4⟩
          · exact absurd g3 (q2 _)
        · exact h j io' hj
      · cases ha
    · cases ha
theorem mkD_mem {il : List IOper} {anc : List (Nat × List Nat)} : ∀ {od rds : List Nat} {l : List DOper}, mkD il anc od rds = some l → ∀ d ∈ l, il[d.pos]? = some d.o
  | [], rds, l, h, d, hd => by simp [mkD] at h; subst h; simp at hd
  | i :: od, rds, l, h, d, hd => by
    simp only [mkD] at h
    split at h
    · rename_i io hio
      obtain ⟨l', h1, rfl⟩ := map_some h
      rcases List.mem_cons.1 hd with rfl | hd
      · exact hio
      · exact mkD_mem h1 d hd
    · cases h
def Rel (ops : Array Oper) (x y : DOper) : Prop := (Bef ops x.pos y.pos ∨ swapOK x y = true) ∧ y.pos ∉ edgesOf ops x.pos ∧ x.pos ≠ y.pos
theorem pairsOK_spec {ops : Array Oper} {anc : List (Nat × List Nat)} (ha : ∀ k i, i ∈ lookL anc k → Bef ops i k) : ∀ {l : List DOper}, pairsOK ops anc l = true → l.Pairwise (Rel ops)
  | [], _ => .nil
  | x :: l, h => by
    simp only [pairsOK, Bool.and_eq_true, List.all_eq_true] at h
    refine .cons (fun y hy => ?_) (pairsOK_spec ha h.2)
    have := h.1 y hy
    simp only [pairOK, Bool.and_eq_true, Bool.or_eq_true, Bool.not_eq_true', List.contains_eq_mem, decide_eq_true_eq, decide_eq_false_iff_not, beq_eq_false_iff_ne] at this
    exact ⟨this.1.1.imp (ha _ _) id, this.1.2, this.2⟩
structure Cn (ops : Array Oper) (l : List DOper) (listed : Array Bool) : Prop where
  un : ∀ d ∈ l, listed.getD d.pos true = false
  all : ∀ i, i < ops.size → listed.getD i true = false → ∃ d ∈ l, d.pos = i
  size : listed.size = ops.size
  dc : ∀ j, listed.getD j false = true → ∀ i ∈ edgesOf ops j, listed.getD i false = true
  pw : l.Pairwise (Rel ops)
  ed : ∀ d ∈ l, ∀ j ∈ edgesOf ops d.pos, j < ops.size ∧ j ≠ d.pos
theorem mem_edges {ops : Array Oper} {i : Nat} {o : Oper} (ho : ops[i]? = some o) {j : Nat} : j ∈ edgesOf ops i ↔ ∃ x ∈ o.after, Region.binds .any x = true ∧ x.on = j := by
  simp only [edgesOf, ho, List.mem_map, List.mem_filter, Array.mem_toList_iff]
  constructor
  · rintro ⟨x, ⟨h1, h2⟩, h3⟩; exact ⟨x, h1, h2, h3⟩
  · rintro ⟨x, h1, h2, h3⟩; exact ⟨x, ⟨h1, h2⟩, h3⟩
theorem ready_edges {ops : Array Oper} {i : Nat} {listed : Array Bool} (h : i ∈ Region.ready .any ops listed) : ∀ j ∈ edgesOf ops i, listed.getD j false = true := by
  obtain ⟨_, o, ho, hall⟩ := mem_ready.1 h
  intro j hj
  obtain ⟨x, h1, h2, rfl⟩ := (mem_edges ho).1 hj
  exact hall x h1 h2
theorem bef_listed {ops : Array Oper} {l : List DOper} {listed : Array Bool} (hc : Cn ops l listed) {i j : Nat} (hb : Bef ops i j) : (∀ k ∈ edgesOf ops j, listed.getD k false = true) → listed.getD i false = true := by
  induction hb with
  | edge h => intro hj; exact hj _ h
  | step h g ih => intro hj; exact ih (hc.dc _ (hj _ g))
theorem getD_tf {listed : Array Bool} {i : Nat} (h : listed.getD i true = false) : ¬ listed.getD i false = true := by
  intro k
  rcases Nat.lt_or_ge i listed.size with h' | h'
  · simp [h'] at h k; rw [h] at k; cases k
  · simp [Array.getElem?_eq_none h'] at k
theorem Cn.take {ops : Array Oper} {l1 l2 : List DOper} {d : DOper} {listed : Array Bool} (hc : Cn ops (l1 ++ d :: l2) listed) (hr : d.pos ∈ Region.ready .any ops listed) : Cn ops (l1 ++ l2) (listed.setIfInBounds d.pos true) := by
  have hsub : (l1 ++ l2).Sublist (l1 ++ d :: l2) := List.Sublist.append_left (List.sublist_cons_self d l2) l1
  have hmem : ∀ x ∈ l1 ++ l2, x ∈ l1 ++ d :: l2 := fun x hx => hsub.subset hx
  have hne : ∀ x ∈ l1 ++ l2, x.pos ≠ d.pos := by
    intro x hx
    have hp := List.pairwise_append.1 hc.pw
    rcases List.mem_append.1 hx with h | h
    · exact (hp.2.2 x h d (by simp)).2.2
    · exact fun e => ((List.pairwise_cons.1 hp.2.1).1 x h).2.2 e.symm
  refine ⟨fun x hx => ?_, fun i hi hu => ?_, by simp [hc.size], fun j hj i hi => ?_, hc.pw.sublist hsub, fun x hx => hc.ed x (hmem x hx)⟩
  · rw [getD_set_ne true (Ne.symm (hne x hx))]
    exact hc.un x (hmem x hx)
  · have hid : i ≠ d.pos := by
      rintro rfl
      have : d.pos < listed.size := by rw [hc.size]; exact hi
      simp [this] at hu
    rw [getD_set_ne true (Ne.symm hid)] at hu
    obtain ⟨x, hx, rfl⟩ := hc.all i hi hu
    refine ⟨x, ?_, rfl⟩
    rcases List.mem_append.1 hx with h | h
    · simp [h]
    · rcases List.mem_cons.1 h with rfl | h
      · exact absurd rfl hid
      · simp [h]
  · by_cases hjd : d.pos = j
    · subst hjd
      exact getD_set_true (ready_edges hr i hi)
    · rw [getD_set_ne false hjd] at hj
      exact getD_set_true (hc.dc j hj i hi)
theorem Stp_step {n : Nat} {ops : Array Oper} {d : DOper} {o : Oper} {own : Bool} {io : IOp} (hl : lowOp P own o.op = some io) (ha : io = d.o.op ∨ Aft io d.o.op) (hg : lowGuard ops o.guard = some d.o.guard) (hd : dstOk n o.dst = true) (hdst : d.o.dst = o.dst) (hS : St n ro bo Φ e a) (hH : Holds ro fr Φ H w) (hb : Mem.le bo fr)
    {v : AV} {H' : Heap} {r : Bool} (h : Stp P d.o e H v H' r) {Q : Exit → Act → World → Prop} :
    if Region.wanted o (yielded ops a.tmps) then o.wp P a w (Cpost n ro bo fr Φ w fun e' H'' => Env.sub (e.setO d.o.dst v) e' ∧ H'' = H') Q else Cpost n ro bo fr Φ w (fun e' H'' => Env.sub (e.setO d.o.dst v) e' ∧ H'' = H') (a.put o.dst undef) w := by
  have key : regWP P [⟨o.dst, d.o.guard, d.o.op⟩] e H fun e' H'' => Env.sub (e.setO d.o.dst v) e' ∧ H'' = H' := by
    rw [hdst]
    unfold Stp at h
    simp only [regWP]
    split at h
    · rename_i hgn
      try simp only [hgn]
      exact opF_sound (Env.sub_refl _) (fun v' H'' hk => by obtain ⟨rfl, rfl⟩ := hk; exact ⟨Env.sub_refl _, rfl⟩) h.2
    · rename_i g b hgn
      have up : ∀ {c : Bool}, e.get g = some (.bool c) → Env.sub e (e.set g (.bool c)) := fun {c} hc t x hx => by
        rw [Env.get_set]
        split
        · rename_i q; subst q; rw [hc] at hx; exact hx
        · exact hx
      try simp only [hgn]
      rcases h with ⟨h1, h2, h3⟩ | ⟨h1, h2, h3, h4⟩
      · rw [h2]
        refine ⟨fun _ => ?_, fun k => by cases b <;> cases k⟩
        exact opF_sound (up h2) (fun v' H'' hk => by obtain ⟨rfl, rfl⟩ := hk; exact ⟨Env.sub_setO (up h2) _ _, rfl⟩) h3
      · subst h3; subst h4
        rcases h2 with h2 | h2
        · rw [h2]
          refine ⟨fun k => (by cases b <;> cases k), fun _ => ?_⟩
          exact ⟨Env.sub_setO (up h2) _ _, rfl⟩
        · rw [h2]
          exact ⟨Env.sub_refl _, rfl⟩
  have := reg_step (Q := Q) (l := []) hl ha hg hd hS hH hb key
  exact this
theorem any_sound {n : Nat} {ops : Array Oper} (hb : Mem.le bo fr) {K : Env → Heap → Prop} (hK : ∀ e e' H, Env.sub e e' → K e H → K e' H) {Q : Exit → Act → World → Prop} : ∀ (fuel : Nat) (l : List DOper) (listed : Array Bool) (p : Pend) (ro : Mem) (Φ : Emb) (e : Env) (H : Heap) (a : Act) (w : World),
    l.length ≤ fuel → Cn ops l listed → (∀ d ∈ l, Low P n ops d) → St n ro bo Φ e a → Holds ro fr Φ H w → drawR P l p e H K → (∀ a' w', Cpost n ro bo fr Φ w K a' w' → Q .normal a' w') → wpAny P .any ops Q fuel listed a w := by
  have nil : ∀ {listed : Array Bool}, Cn ops [] listed → Region.ready .any ops listed = [] := by
    intro listed hc
    rw [List.eq_nil_iff_forall_not_mem]
    intro i hi
    obtain ⟨h0, o, ho, _⟩ := mem_ready.1 hi
    obtain ⟨d, hd, _⟩ := hc.all i (Array.getElem?_eq_some_iff.1 ho).1 h0
    cases hd
  intro fuel
  induction fuel with
  | zero =>
    intro l listed p ro Φ e H a w hlen hc hlow hS hH h hQ
    have : l = [] := List.length_eq_zero_iff.1 (by omega)
    subst this
    exact ⟨nil hc, hQ a w ⟨e, H, ro, Φ, h, hS, hH, Mem.le_refl _, Emb.le_refl _, WExt.refl _⟩⟩
  | succ fuel ih =>
    intro l listed p ro Φ e H a w hlen hc hlow hS hH h hQ
    refine ⟨fun hnil => ?_, fun i hi => ?_⟩
    · cases l with
      | nil => exact hQ a w ⟨e, H, ro, Φ, h, hS, hH, Mem.le_refl _, Emb.le_refl _, WExt.refl _⟩
      | cons d l =>
        exfalso
        have : d.pos ∈ Region.ready .any ops listed := by
          obtain ⟨o, own, _, ho, _⟩ := hlow d (by simp)
          refine mem_ready.2 ⟨hc.un d (by simp), o, ho, fun x hx hbx => ?_⟩
          have hj : x.on ∈ edgesOf ops d.pos := (mem_edges ho).2 ⟨x, hx, hbx, rfl⟩
          obtain ⟨g1, g2⟩ := hc.ed d (by simp) _ hj
          cases hu : listed.getD x.on true with
          | true =>
            have hlt : x.on < listed.size := by rw [hc.size]; exact g1
            simp [hlt] at hu ⊢; exact hu
          | false =>
            exfalso
            obtain ⟨y, hy, hyp⟩ := hc.all _ g1 hu
            rcases List.mem_cons.1 hy with rfl | hy
            · exact g2 hyp.symm
            · exact ((List.pairwise_cons.1 hc.pw).1 y hy).2.1 (by rw [hyp]; exact hj)
        rw [hnil] at this
        cases this
    · obtain ⟨h0, o', ho', _⟩ := mem_ready.1 hi
      obtain ⟨d, hd, hdi⟩ := hc.all i (Array.getElem?_eq_some_iff.1 ho').1 h0
      subst hdi
      obtain ⟨l1, l2, rfl⟩ := List.append_of_mem hd
      have hsw : ∀ x ∈ l1, swapOK x d = true := by
        intro x hx
        have := (List.pairwise_append.1 hc.pw).2.2 x hx d (by simp)
        refine this.1.resolve_left fun hbf => ?_
        exact getD_tf (hc.un x (by simp [hx])) (bef_listed hc hbf (ready_edges hi))
      obtain ⟨v, H', r, s1, s2, s3⟩ := drawR_front hK hsw h
      obtain ⟨o, own, _, ho, k1, ka, k2, k3, k4⟩ := hlow d hd
      have hst := Stp_step (Q := Q) k1 ka k2 k3 k4 hS hH hb s1
      unfold wpOp
      simp only [ho]
      have key : ∀ a' w', Cpost n ro bo fr Φ w (fun e' H'' => Env.sub (e.setO d.o.dst v) e' ∧ H'' = H') a' w' → wpAny P .any ops Q fuel (listed.setIfInBounds d.pos true) a' w' := by
        rintro a' w' ⟨e', Hx, ro', Φ', ⟨g1, rfl⟩, g2, g3, g4, g5, g6⟩
        refine ih (l1 ++ l2) _ _ ro' Φ' e' _ a' w' ?_ (hc.take hi) (fun x hx => hlow x ?_) g2 g3 (drawR_mono hK (fun _ _ q => q) g1 s3) fun a'' w'' hcp => hQ a'' w'' (hcp.trans g4 g5 g6)
        · simp at hlen ⊢; omega
        · rcases List.mem_append.1 hx with q | q <;> simp [q]
      split
      · rename_i hw; rw [if_pos hw] at hst; exact .inl (Oper.wp_mono key hst)
      · rename_i hw; rw [if_neg hw] at hst; exact key _ _ hst
theorem lowDraw_spec {n : Nat} {ops : Array Oper} {il : List IOper} {od : List Nat} {l : List DOper} (hl : LowL P n ops il) (h : lowDraw ops il od = some l) :
    Cn ops l (Array.replicate ops.size false) ∧ (∀ d ∈ l, Low P n ops d) ∧ l.length ≤ ops.size := by
  unfold lowDraw at h
  split at h
  · rename_i l' hm
    split at h
    · rename_i hok
      cases h
      simp only [drawOK, Bool.and_eq_true, List.all_eq_true, List.mem_range, List.contains_eq_mem, decide_eq_true_eq, List.mem_map, Bool.not_eq_true', beq_eq_false_iff_ne] at hok
      obtain ⟨⟨⟨h1, h2⟩, h3⟩, h4⟩ := hok
      refine ⟨⟨fun d hd => ?_, fun i hi _ => h2 i hi, by simp, fun j hj => ?_, pairsOK_spec (mem_ancsOf (fun k i hi => by simp [lookL] at hi)) h1, fun d hd => (h4 d hd).2⟩, fun d hd => ?_, h3⟩
      · simp [(h4 d hd).1]
      · exfalso
        rcases Nat.lt_or_ge j ops.size with h' | h'
        · simp [h'] at hj
        · simp [Array.getElem?_eq_none, h'] at hj
      · exact hl d.pos d.o (mkD_mem hm d hd)
    · cases h
  · cases h
end
end Go.Fw
namespace Go.Fw
inductive IRes where
  | tmp (t : Nat)
  | cell (t : Nat) (n : Option Nat)
  deriving Inhabited
structure IFun where
  body : ICode
  res : List IRes
  n : Nat
def lowRes (P : Program) : List ResultVar → Option (List IRes)
  | [] => some []
  | .tmp t :: l => (lowRes P l).map (.tmp t :: ·)
  | .cell t T :: l => match aggN P T, lowRes P l with
    | some n, some r => some (.cell t n :: r)
    | _, _ => none
def lowFunc (P : Program) (f : FuncId) (fl : List (Nat × Nat)) (od : List (Nat × List Nat)) : Option IFun := match P.funcs[f]? with
  | some fn => if fn.name == "runtime.NumGoroutine" then none else match fn.body with
    | some c => match lowCode P fn.ntmps fl od c, lowRes P fn.results.toList with
      | some b, some r => some ⟨b, r, fn.ntmps⟩
      | _, _ => none
    | none => none
  | none => none
def resL : List IRes → Env → Heap → (List AV → Prop) → Prop
  | [], _, _, K => K []
  | .tmp t :: l, e, H, K => match e.get t with
    | some v => resL l e H fun vs => K (v :: vs)
    | none => False
  | .cell t n :: l, e, H, K => match e.get t with
    | some p => (match p with | .ptr _ _ => loadWP H p n fun v => resL l e H fun vs => K (v :: vs) | _ => False)
    | none => False
def one (vs : List AV) : AV := match vs with
  | [v] => v
  | vs => .tuple vs
def retPost (res : List IRes) (R : AV → Heap → Prop) : Post
  | .normal, e, H => resL res e H fun vs => R (one vs) H
  | .ret, e, H => resL res e H fun vs => R (one vs) H
  | .exit _, _, _ => False
def initEnv : Nat → List AV → Env
  | _, [] => []
  | i, v :: l => (i, v) :: initEnv (i + 1) l
section
variable {P : Program} {ro bo fr : Mem} {Φ : Emb} {e : Env} {H : Heap} {a : Act} {w w' : World}
def Cp0 (n : Nat) (ro bo fr : Mem) (Φ0 : Emb) (w : World) (K : Env → Heap → Prop) (a' : Act) (w' : World) : Prop :=
  ∃ e' H' ro' Φ', K e' H' ∧ St n ro' bo Φ' e' a' ∧ Holds ro' fr Φ' H' w' ∧ Mem.le ro ro' ∧ Emb.le Φ0 Φ' ∧ WExt w w'
theorem Cp0.trans {n : Nat} {ro1 : Mem} {Φ0 : Emb} {w1 : World} {K : Env → Heap → Prop} {a' : Act} {w' : World} (h : Cp0 n ro1 bo fr Φ0 w1 K a' w') (hr : Mem.le ro ro1) (hw : WExt w w1) : Cp0 n ro bo fr Φ0 w K a' w' := by
  obtain ⟨e', H', ro', Φ', h1, h2, h3, h4, h5, h6⟩ := h
  exact ⟨e', H', ro', Φ', h1, h2, h3, Mem.le_trans hr h4, h5, hw.trans h6⟩
def lift (n : Nat) (ro bo fr : Mem) (Φ0 : Emb) (w : World) (Q : Post) : Exit → Act → World → Prop
  | .normal, a', w' => Cp0 n ro bo fr Φ0 w (Q .normal) a' w'
  | .exit i, a', w' => Cp0 n ro bo fr Φ0 w (Q (.exit i)) a' w'
  | .ret, a', w' => Cp0 n ro bo fr Φ0 w (Q .ret) a' w'
  | _, _, _ => False
theorem wp_loop_n {c : Code} {Q : Exit → Act → World → Prop} (R : Nat → Act → World → Prop) (h0 : ∀ a w, ¬ R 0 a w) (round : ∀ m a w, R (m + 1) a w → c.wp P (Exit.then (R m) Q) a w) (n : Nat) (h : R n a w) : (Code.loop c).wp P Q a w := by
  intro b k cs
  have key : ∀ n a w, R n a w → ∃ e a' w', Q e a' w' ∧ Arrives P (lone (b.at a (.code c :: .inLoop c :: k)) cs w) b k cs e a' w' := by
    intro n
    induction n with
    | zero => intro a w h; exact absurd h (h0 a w)
    | succ n ih =>
      intro a w hR
      obtain ⟨e, a₁, w₁, hq, harr⟩ := round n a w hR b (.inLoop c :: k) cs
      cases e with
      | normal =>
        obtain ⟨e₂, a₂, w₂, hq₂, harr₂⟩ := ih a₁ w₁ hq
        exact ⟨e₂, a₂, w₂, hq₂, .of_steps (Steps.trans harr (.one step_inLoop)) harr₂⟩
      | exit id => exact ⟨_, a₁, w₁, hq, .pass (x := .inLoop c) rfl (fun _ _ => .inl (by simp)) harr⟩
      | goto l => exact ⟨_, a₁, w₁, hq, .pass (x := .inLoop c) rfl (fun _ _ => .inl (by simp)) harr⟩
      | ret => exact ⟨_, a₁, w₁, hq, .pass (x := .inLoop c) rfl (fun _ _ => .inl (by simp)) harr⟩
      | panic ch => exact ⟨_, a₁, w₁, hq, .pass (x := .inLoop c) rfl (fun _ _ => .inl (by simp)) harr⟩
      | outgrown => exact ⟨_, a₁, w₁, hq, .pass (x := .inLoop c) rfl (fun _ _ => .inl (by simp)) harr⟩
  obtain ⟨e, a', w', hq, harr⟩ := key n a w h
  exact ⟨e, a', w', hq, .of_steps (.one step_loop) harr⟩
theorem ltL_mem {n : Nat} : ∀ {xs : List AV}, ltL n xs = true → ∀ (j : Nat) (x : AV), xs[j]? = some x → x.ltI n = true := by
  intro xs
  induction xs with
  | nil => intro _ j x h; simp at h
  | cons y xs ih =>
    intro h j x hx
    simp only [ltL, Bool.and_eq_true] at h
    cases j with
    | zero => simp at hx; subst hx; exact h.1
    | succ j => exact ih h.2 j x (by simpa using hx)
def Emb.upto (Φ : Emb) (n : Nat) : Emb := fun i => if i < n then Φ i else none
theorem VR.upto {n : Nat} {v : AV} {u : Value} (h : VR ro bo Φ v u) : v.ltI n = true → VR ro bo (Φ.upto n) v u := by
  have hid : ∀ {id : Nat} {p : Nat × Nat × Nat}, Φ id = some p → decide (id < n) = true → (Φ.upto n) id = some p := fun h1 h2 => by
    simp only [Emb.upto]; rw [if_pos (by simpa using h2)]; exact h1
  induction h with
  | bool b => intro _; exact .bool b
  | int k n => intro _; exact .int k n
  | str l s h => intro _; exact .str l s h
  | nil => intro _; exact .nil
  | ptr id off r o s h => intro hc; exact .ptr id off r o s (hid h hc)
  | rptr bw xs r off c T fz hr hl hx ho ih => intro hc; exact .rptr bw xs r off c T fz hr hl (fun j v u hv hu => ih j v u hv hu (ltL_mem hc j v hv)) ho
  | slice e id off len cap o' kc r o s h he h1 h2 h3 h4 => intro hc; exact .slice e id off len cap o' kc r o s (hid h hc) he h1 h2 h3 h4
  | sliceE e id off a he => intro _; exact .sliceE e id off a he
  | listNil e m he => intro _; exact .listNil e m he
  | list e m xs r off len cap c T fz he hm hlen h1 hf hr hl hx ho sp hsp ih => intro hc; exact .list e m xs r off len cap c T fz he hm hlen h1 hf hr hl (fun j v u hv hu => ih j v u hv hu (ltL_mem hc j v hv)) ho sp hsp
  | func f xs ys us vs h1 h2 hx hy ih1 ih2 =>
    intro hc
    simp only [AV.ltI, Bool.and_eq_true] at hc
    exact .func f xs ys us vs h1 h2 (fun j v u hv hu => ih1 j v u hv hu (ltL_mem hc.1 j v hv)) (fun j v u hv hu => ih2 j v u hv hu (ltL_mem hc.2 j v hv))
  | nilFunc => intro _; exact .nilFunc
  | iface t v u h ih => intro hc; exact .iface t v u (ih (by simpa [AV.ltI] using hc))
  | nilIface => intro _; exact .nilIface
  | map k kvs r es clock hr he => intro _; exact .map k kvs r es clock hr he
  | agg xs c h1 hx ho ih => intro hc; exact .agg xs c h1 (fun j v u hv hu => ih j v u hv hu (ltL_mem (by simpa [AV.ltI] using hc) j v hv)) ho
  | tuple xs c h1 hx ih => intro hc; exact .tuple xs c h1 (fun j v u hv hu => ih j v u hv hu (ltL_mem (by simpa [AV.ltI] using hc) j v hv))
theorem leH_spec {n : Nat} : ∀ {a b : Heap}, leH n a b → a.length ≤ b.length ∧ ∀ (i : Nat) (x : Blk), a[i]? = some (some x) → b[i]? = some (some x) ∧ ltL n x.cells = true := by
  intro a
  induction a with
  | nil => intro b _; exact ⟨by simp, fun i x h => by simp at h⟩
  | cons x a ih =>
    intro b h
    cases x with
    | none =>
      cases b with
      | nil => exact h.elim
      | cons y b =>
        obtain ⟨h1, h2⟩ := ih (b := b) h
        refine ⟨by simpa using h1, fun i z hz => ?_⟩
        cases i with
        | zero => simp at hz
        | succ i => simpa using h2 i z (by simpa using hz)
    | some c =>
      cases b with
      | nil => exact h.elim
      | cons y b =>
        cases y with
        | none => exact h.elim
        | some d =>
          obtain ⟨rfl, hb, h⟩ := h
          obtain ⟨h1, h2⟩ := ih (b := b) h
          refine ⟨by simpa using h1, fun i z hz => ?_⟩
          cases i with
          | zero => simp at hz; subst hz; exact ⟨rfl, hb⟩
          | succ i => simpa using h2 i z (by simpa using hz)
theorem Holds.keep {H' : Heap} {ro' : Mem} {Φ' : Emb} (hH : Holds ro' fr Φ' H w) (h : leH H'.length H' H) : Holds ro' fr (Φ'.upto H'.length) H' w := by
  obtain ⟨h1, h2⟩ := leH_spec h
  have hu : ∀ {i : Nat} {p : Nat × Nat × Nat}, (Φ'.upto H'.length) i = some p → Φ' i = some p := fun {i p} hi => by
    simp only [Emb.upto] at hi; split at hi; exact hi; cases hi
  refine ⟨hH.hro, hH.hfr, fun i b hb => ?_, fun i j b c r p q hi hj hp hq => hH.inj i j b c r p q (h2 i b hi).1 (h2 j c hj).1 (hu hp) (hu hq), fun i b r p hi hp => hH.sep i b r p (h2 i b hi).1 (hu hp), fun i p hp => ?_, hH.disj⟩
  · have hi : i < H'.length := (List.getElem?_eq_some_iff.1 hb).1
    have he : (Φ'.upto H'.length) i = Φ' i := by simp only [Emb.upto]; rw [if_pos hi]
    rw [he]
    refine (hH.own i b (h2 i b hb).1).imp (fun x => x) fun ⟨r, o, s, g1, ⟨⟨c, g2, g3, g4, g5⟩, g6, g7, g8⟩⟩ => ⟨r, o, s, g1, ⟨⟨c, g2, g3, fun j v u hv hu => (g4 j v u hv hu).upto (ltL_mem (h2 i b hb).2 j v hv), g5⟩, g6, g7, g8⟩⟩
  · simp only [Emb.upto] at hp
    split at hp
    · assumption
    · cases hp
theorem Env.has_get : ∀ {e0 e : Env}, Env.has e0 e → ∀ (t : Nat) (v : AV), e0.get t = some v → e.get t = some v
  | [], e, _, t, v, h => by simp [Env.get] at h
  | (s, u) :: l, e, h, t, v, ht => by
    simp only [Env.get] at ht
    split at ht
    · rename_i q; cases ht; subst q; exact h.1
    · exact Env.has_get h.2 t v ht
theorem Env.lt_get : ∀ {e0 : Env} {n : Nat}, Env.lt n e0 = true → ∀ (t : Nat) (v : AV), e0.get t = some v → v.ltI n = true
  | [], n, _, t, v, h => by simp [Env.get] at h
  | (s, u) :: l, n, h, t, v, ht => by
    simp only [Env.lt, Bool.and_eq_true] at h
    simp only [Env.get] at ht
    split at ht
    · cases ht; exact h.1
    · exact Env.lt_get h.2 t v ht
theorem St.cut {n m : Nat} {e0 : Env} (h : St n ro bo Φ e a) (h1 : Env.has e0 e) (h2 : Env.lt m e0 = true) : St n ro bo (Φ.upto m) e0 a :=
  ⟨h.size, h.defers, fun t v ht => by
    obtain ⟨u, k1, k2⟩ := h.env t v (Env.has_get h1 t v ht)
    exact ⟨u, k1, k2.upto (Env.lt_get h2 t v ht)⟩⟩
def Emb.via (Φ : Emb) (σ : List Nat) : Emb := fun i => match σ[i]? with
  | some k => Φ k
  | none => none
theorem Emb.via_get {σ : List Nat} {i k : Nat} (h : σ[i]? = some k) : (Φ.via σ) i = Φ k := by unfold Emb.via; rw [h]
theorem Emb.via_some {σ : List Nat} {i : Nat} {p : Nat × Nat × Nat} (h : (Φ.via σ) i = some p) : ∃ k, σ[i]? = some k ∧ Φ k = some p := by
  unfold Emb.via at h
  split at h
  · exact ⟨_, ‹_›, h⟩
  · cases h
theorem hasR_get {σ : List Nat} : ∀ {e0 e : Env}, hasR σ e0 e → ∀ (t : Nat) (v : AV), e0.get t = some v → ∃ x, e.get t = some x ∧ x.ids (fun k => σ.contains k) = true ∧ x.ren (bwd σ) = v
  | [], e, _, t, v, h => by simp [Env.get] at h
  | (s, u) :: l, e, h, t, v, ht => by
    simp only [Env.get] at ht
    split at ht
    · rename_i q; cases ht; subst q; exact h.1
    · exact hasR_get h.2 t v ht
theorem leR_get {σ : List Nat} {H : Heap} : ∀ {ks : List Nat} {H0 : Heap}, leR σ H ks H0 → ks.length = H0.length ∧ ∀ (i : Nat) (b : Blk), H0[i]? = some (some b) → ∃ k x, ks[i]? = some k ∧ H.blk k = some x ∧ idsL (fun k => σ.contains k) x.cells = true ∧ Blk.ren (bwd σ) x = b
  | [], H0, h => by
    have : H0 = [] := h
    subst this
    exact ⟨rfl, fun i b hb => by simp at hb⟩
  | k :: ks, [], h => h.elim
  | k :: ks, none :: H0, h => by
    obtain ⟨h1, h2⟩ := leR_get (ks := ks) (H0 := H0) h
    refine ⟨by simp [h1], fun i b hb => ?_⟩
    cases i with
    | zero => simp at hb
    | succ i => simpa using h2 i b (by simpa using hb)
  | k :: ks, some b' :: H0, h => by
    obtain ⟨⟨x, g1, g2, g3⟩, h⟩ := h
    obtain ⟨h1, h2⟩ := leR_get (ks := ks) (H0 := H0) h
    refine ⟨by simp [h1], fun i b hb => ?_⟩
    cases i with
    | zero => simp at hb; subst hb; exact ⟨k, x, rfl, g1, g2, g3⟩
    | succ i => simpa using h2 i b (by simpa using hb)
theorem blk_at {H : Heap} {k : Nat} {x : Blk} (h : H.blk k = some x) : H[k]? = some (some x) := by
  unfold Heap.blk at h
  split at h
  · rename_i hb; cases h; exact hb
  · cases h
def cutA (L : Nat) (e : Env) (H : Heap) (e0 : Env) (H0 : Heap) : Prop :=
  (Env.has e0 e ∧ Env.lt H0.length e0 = true ∧ L ≤ H0.length ∧ leH H0.length H0 H) ∨
  ∃ σ : List Nat, σ.Nodup ∧ σ.take L = List.range L ∧ hasR σ e0 e ∧ leR σ H σ H0
theorem cut_sound {n L : Nat} {e0 : Env} {H0 : Heap} {Φ0 : Emb} (hc : cutA L e H e0 H0) (hS : St n ro bo Φ e a) (hH : Holds ro fr Φ H w) (h0 : ∀ i p, Φ0 i = some p → i < L ∧ Φ i = some p) :
    ∃ Φ2, St n ro bo Φ2 e0 a ∧ Holds ro fr Φ2 H0 w ∧ Emb.le Φ0 Φ2 := by
  rcases hc with ⟨k1, k2, k3, k4⟩ | ⟨σ, hn, hL, h1, h2⟩
  · refine ⟨Φ.upto H0.length, hS.cut k1 k2, hH.keep k4, fun i p hi => ?_⟩
    obtain ⟨g1, g2⟩ := h0 i p hi
    simp only [Emb.upto]
    rw [if_pos (by omega)]
    exact g2
  · obtain ⟨hl, hg⟩ := leR_get h2
    have bk : ∀ i p, (σ.contains i) = true → Φ i = some p → (Φ.via σ) (bwd σ i) = some p := fun i p hi hp => by
      rw [Emb.via_get (bwd_get (by simpa using hi))]; exact hp
    refine ⟨Φ.via σ, ⟨hS.size, hS.defers, fun t v ht => ?_⟩, ⟨hH.hro, hH.hfr, fun i b hi => ?_, fun i j b c r p q hi hj hp hq => ?_, fun i b r p hi hp => ?_, fun i p hp => ?_, hH.disj⟩, fun i p hi => ?_⟩
    · obtain ⟨x, g1, g2, rfl⟩ := hasR_get h1 t v ht
      obtain ⟨u, q1, q2⟩ := hS.env t x g1
      exact ⟨u, q1, VR.ren bk (Mem.le_refl _) (Mem.le_refl _) q2 g2⟩
    · obtain ⟨k, x, g1, g2, g3, rfl⟩ := hg i b hi
      rw [Emb.via_get g1]
      rcases hH.own k x (blk_at g2) with ⟨k1, k2, k3⟩ | ⟨r2, o2, s2, k1, ⟨⟨c2, m1, m2, m3, m4⟩, m5, m6, m7⟩⟩
      · exact .inl ⟨by simp [Blk.ren, renL, k1, subL], k2, k3⟩
      · refine .inr ⟨r2, o2, s2, k1, ⟨⟨c2, m1, m2, fun j v u hv hu => ?_, m4⟩, by simp only [Blk.ren, renL, subL_length]; exact m5, fun q => by simp only [Blk.ren, renL, subL_length]; exact m6 q, m7⟩⟩
        obtain ⟨z, n1, rfl⟩ := subL_get _ _ _ hv
        exact VR.ren bk (Mem.le_refl _) (Mem.le_refl _) (m3 j z u n1 hu) (idsL_get g3 j z n1)
    · obtain ⟨k, k1, k2⟩ := Emb.via_some hp
      obtain ⟨k', k3, k4⟩ := Emb.via_some hq
      obtain ⟨_, x, q1, q2, _⟩ := hg i b hi
      obtain ⟨_, y, q3, q4, _⟩ := hg j c hj
      rw [k1] at q1; cases q1
      rw [k3] at q3; cases q3
      have := hH.inj k k' x y r p q (blk_at q2) (blk_at q4) k2 k4
      subst this
      exact (List.getElem?_inj (List.getElem?_eq_some_iff.1 k1).1 hn).1 (by rw [k1, k3])
    · obtain ⟨k, k1, k2⟩ := Emb.via_some hp
      obtain ⟨_, x, q1, q2, _⟩ := hg i b hi
      rw [k1] at q1; cases q1
      exact hH.sep k x r p (blk_at q2) k2
    · obtain ⟨k, k1, k2⟩ := Emb.via_some hp
      rw [← hl]; exact (List.getElem?_eq_some_iff.1 k1).1
    · obtain ⟨g1, g2⟩ := h0 i p hi
      have : σ[i]? = some i := by
        have := congrArg (fun l : List Nat => l[i]?) hL
        simp only [List.getElem?_take, if_pos g1, List.getElem?_range g1] at this
        exact this
      rw [Emb.via_get this]
      exact g2
theorem Holds.pad (hH : Holds ro fr Φ H w) (m : Nat) (e : TypeId) : Holds ro fr Φ (H ++ List.replicate m (some ⟨[], e, false⟩)) w := by
  have key : ∀ {i : Nat} {b : Blk}, (H ++ List.replicate m (some ⟨[], e, false⟩))[i]? = some (some b) → (H[i]? = some (some b)) ∨ (b = ⟨[], e, false⟩ ∧ Φ i = none) := by
    intro i b h
    rcases Nat.lt_or_ge i H.length with hi | hi
    · rw [List.getElem?_append_left hi] at h; exact .inl h
    · rw [List.getElem?_append_right hi, List.getElem?_replicate] at h
      split at h
      · cases h
        refine .inr ⟨rfl, ?_⟩
        cases hp : Φ i with
        | none => rfl
        | some p => have := hH.dom i p hp; omega
      · cases h
  refine ⟨hH.hro, hH.hfr, fun i b h => ?_, fun i j b c r p q hi hj hp hq => ?_, fun i b r p hi hp => ?_, fun i p hp => ?_, hH.disj⟩
  · rcases key h with h | ⟨h1, h2⟩
    · exact hH.own i b h
    · subst h1; exact .inl ⟨rfl, rfl, h2⟩
  · rcases key hi with hi | ⟨_, h⟩
    · rcases key hj with hj | ⟨_, h⟩
      · exact hH.inj i j b c r p q hi hj hp hq
      · rw [h] at hq; cases hq
    · rw [h] at hp; cases hp
  · rcases key hi with hi | ⟨_, h⟩
    · exact hH.sep i b r p hi hp
    · rw [h] at hp; cases hp
  · have := hH.dom i p hp; simp; omega
theorem draw_sound {n id : Nat} {ops : Array Oper} {il : List IOper} {od : List Nat} {l : List DOper} (hl : LowL P n ops il) (hm : P.follows .mixedOrders = true) (hd : lowDraw ops il od = some l)
    (hb : Mem.le bo fr) (hS : St n ro bo Φ e a) (hH : Holds ro fr Φ H w) {Q : Env → Heap → Prop} (h : drawF P l [] e H fun e' H' => ∀ e2, Env.sub e' e2 → Q e2 H') :
    (Code.region id ops true).wp P (fun x a' w' => x = .normal ∧ Cpost n ro bo fr Φ w Q a' w') a w := by
  refine wp_region_any hm ?_
  obtain ⟨h1, h2, h3⟩ := lowDraw_spec hl hd
  have hH' : Holds ro fr Φ H { w with drawn := w.drawn + 1 } := ⟨hH.hro, hH.hfr, fun i b hb => (hH.own i b hb).imp (fun x => x) fun ⟨r, o, s, g1, ⟨x, y, z, z2⟩⟩ => ⟨r, o, s, g1, ⟨x, y, z, z2⟩⟩, hH.inj, hH.sep, hH.dom, hH.disj⟩
  refine any_sound (ro := ro) hb (K := fun e' H' => ∀ e2, Env.sub e' e2 → Q e2 H') (fun e e' H he hq e2 h2 => hq e2 (Env.sub_trans he h2)) ops.size l _ [] Φ e H a _ h3 h1 h2 hS hH' (drawF_R (fun e e' H he hq e2 h2 => hq e2 (Env.sub_trans he h2)) h) ?_
  rintro a' w' ⟨e', H', ro', Φ', g1, g2, g3, g4, g5, g6⟩
  exact ⟨rfl, e', H', ro', Φ', g1 _ (Env.sub_refl _), g2, g3, g4, g5, ⟨g6.os, g6.tape, g6.output, g6.size⟩⟩
def cut (L : Nat) (e : Env) (H : Heap) (e0 : Env) (H0 : Heap) : Prop :=
  ∀ (n : Nat) (ro bo fr : Mem) (Φ0 Φ : Emb) (a : Act) (w : World), Mem.le bo fr → (∀ i p, Φ0 i = some p → i < L ∧ Φ i = some p) → St n ro bo Φ e a → Holds ro fr Φ H w →
    ∃ ro' Φ', St n ro' bo Φ' e0 a ∧ Holds ro' fr Φ' H0 w ∧ Mem.le ro ro' ∧ Emb.le Φ0 Φ'
theorem cut_of {L : Nat} {e0 : Env} {H0 : Heap} (h : cutA L e H e0 H0) : cut L e H e0 H0 := fun _ ro _ _ _ _ _ _ _ h0 hS hH =>
  let ⟨Φ2, g1, g2, g3⟩ := cut_sound h hS hH h0
  ⟨ro, Φ2, g1, g2, Mem.le_refl _, g3⟩
theorem cut_trans {L : Nat} {e1 e2 : Env} {H1 H2 : Heap} (h : cut L e H e1 H1) (k : cut L e1 H1 e2 H2) : cut L e H e2 H2 := fun n ro bo fr Φ0 Φ a w hb h0 hS hH =>
  let ⟨ro1, Φ1, g1, g2, g3, g4⟩ := h n ro bo fr Φ0 Φ a w hb h0 hS hH
  let ⟨ro2, Φ2, k1, k2, k3, k4⟩ := k n ro1 bo fr Φ0 Φ1 a w hb (fun i p hi => ⟨(h0 i p hi).1, g4 i p hi⟩) g1 g2
  ⟨ro2, Φ2, k1, k2, Mem.le_trans g3 k3, k4⟩
def fin (L : Nat) (r : AV) (H' : Heap) (v : AV) (h : Heap) : Prop := cut L [(0, v)] h [(0, r)] H'
theorem fin_sound {L : Nat} {r v : AV} {H' : Heap} {u : Value} {Φ0 : Emb} (hf : fin L r H' v H) (hb : Mem.le bo fr) (h0 : ∀ i p, Φ0 i = some p → i < L ∧ Φ i = some p) (hV : VR ro bo Φ v u) (hH : Holds ro fr Φ H w) :
    ∃ ro' Φ', VR ro' bo Φ' r u ∧ Holds ro' fr Φ' H' w ∧ Mem.le ro ro' ∧ Emb.le Φ0 Φ' := by
  obtain ⟨ro', Φ', g1, g2, g3, g4⟩ := hf 1 ro bo fr Φ0 Φ { tmps := #[u], defers := [] } w hb h0 ⟨rfl, rfl, fun t x ht => by
    simp only [Env.get] at ht
    split at ht
    · rename_i e; subst e; cases ht; exact ⟨u, rfl, hV⟩
    · cases ht⟩ hH
  obtain ⟨u', h1, h2⟩ := g1.env 0 r rfl
  cases h1
  exact ⟨ro', Φ', h2, g2, g3, g4⟩
def oneV (us : List Value) : Value := match us with
  | [u] => u
  | us => .tuple us.toArray
def resOne (a : Act) : ResultVar → Sem Value
  | .tmp t => pure (a.tmps.getD t undef)
  | .cell c t => do loadVar t (← asAddr (a.tmps.getD c undef))
theorem resL_sound {fs : List ResultVar} : ∀ {rs : List IRes} {K : List AV → Prop}, lowRes P fs = some rs → EnvOK ro bo Φ e a → Holds ro fr Φ H w → Mem.le bo fr → resL rs e H K →
    ∃ (vs : List AV) (us : List Value), K vs ∧ us.length = vs.length ∧ (∀ (j : Nat) (v : AV) (u : Value), vs[j]? = some v → us[j]? = some u → VR ro bo Φ v u) ∧ (fs.mapM (resOne a)).run P w = .ok us w := by
  induction fs with
  | nil =>
    intro rs K hl hE hH hb h
    simp [lowRes] at hl; subst hl
    exact ⟨[], [], h, rfl, by simp, by simp⟩
  | cons r fs ih =>
    intro rs K hl hE hH hb h
    cases r with
    | tmp t =>
      simp only [lowRes] at hl
      obtain ⟨rs', h1, rfl⟩ := map_some hl
      simp only [resL] at h
      cases hg : e.get t with
      | none => rw [hg] at h; exact h.elim
      | some v =>
        rw [hg] at h
        obtain ⟨u, hu, hV⟩ := hE t v hg
        obtain ⟨vs, us, g1, g2, g3, g4⟩ := ih h1 hE hH hb h
        refine ⟨v :: vs, u :: us, g1, by simp [g2], fun j x y hx hy => ?_, ?_⟩
        · cases j with
          | zero => simp at hx hy; subst hx; subst hy; exact hV
          | succ j => exact g3 j x y (by simpa using hx) (by simpa using hy)
        · simp [List.mapM_cons, resOne, hu, g4]
    | cell c T =>
      simp only [lowRes] at hl
      split at hl <;> cases hl
      rename_i n rs' hn h1
      simp only [resL] at h
      cases hg : e.get c with
      | none => rw [hg] at h; exact h.elim
      | some p =>
        rw [hg] at h
        obtain ⟨u, hu, hV⟩ := hE c p hg
        cases p <;> try exact h.elim
        simp only at h
        obtain ⟨v, x, f1, f2, f3⟩ := load_sound (P := P) hH hb hn hV h
        obtain ⟨vs, us, g1, g2, g3, g4⟩ := ih h1 hE hH hb f1
        refine ⟨v :: vs, x :: us, g1, by simp [g2], fun j y z hx hy => ?_, ?_⟩
        · cases j with
          | zero => simp at hx hy; subst hx; subst hy; exact f3
          | succ j => exact g3 j y z (by simpa using hx) (by simpa using hy)
        · cases hV
          simp only [Instr.loadAt, Instr.sureAddr, Sem.run_bind, Sem.run_pure, Result.andThen_ok] at f2
          simp [List.mapM_cons, resOne, hu, asAddr, f2, g4]
theorem results_run {fn : Func} {us : List Value} (h : (fn.results.toList.mapM (resOne a)).run P w = .ok us w) : (results fn a.tmps).run P w = .ok (oneV us) w := by
  have e1 : results fn a.tmps = (do let vs ← fn.results.mapM (resOne a); pure (if h : vs.size = 1 then vs[0] else .tuple vs)) := by
    unfold results
    congr 1
  rw [e1, Array.mapM_eq_mapM_toList]
  simp only [Sem.run_bind, Sem.run_map, h, Result.andThen_ok, Sem.run_pure]
  match us with
  | [] => rfl
  | [u] => rfl
  | u :: v :: us => rfl
theorem VR.one {vs : List AV} {us : List Value} (hl : us.length = vs.length) (h : ∀ (j : Nat) (v : AV) (u : Value), vs[j]? = some v → us[j]? = some u → VR ro bo Φ v u) : VR ro bo Φ (Fw.one vs) (oneV us) := by
  match vs, us, hl with
  | [], [], _ => exact .tuple _ _ rfl (by simp)
  | [v], [u], _ => exact h 0 v u rfl rfl
  | v :: v' :: vs, u :: u' :: us, hl => exact .tuple _ _ (by simpa using hl) (fun j x y hx hy => h j x y hx (by simpa using hy))
theorem initEnv_get : ∀ (l : List AV) (i t : Nat), (initEnv i l).get t = if i ≤ t then l[t - i]? else none
  | [], i, t => by simp [initEnv, Env.get]
  | v :: l, i, t => by
    simp only [initEnv, Env.get, initEnv_get l (i + 1) t]
    by_cases h1 : t = i
    · subst h1; simp
    · rw [if_neg h1]
      by_cases h2 : i ≤ t
      · rw [if_pos h2, if_pos (by omega), show t - i = (t - (i + 1)) + 1 by omega, List.getElem?_cons_succ]
      · rw [if_neg h2, if_neg (by omega)]
end
end Go.Fw
namespace Go.Fw
inductive KCode where
  | skip
  | reg (ops : List (DOper × List Nat))
  | draw (ops : List (DOper × List Nat))
  | drawP (L m : Nat) (ops : List (DOper × List Nat))
  | seq (a b : KCode)
  | cond (c : Opd) (a b : KCode)
  | block (id : Nat) (c : KCode)
  | loop (c : KCode)
  | exit (id : Nat)
  | ret
  | kill (ts : List Nat) (c : KCode)
  | cut (c : KCode)
  | keep (ts : List Nat) (c : KCode)
  | regN (ops : List (DOper × List Nat)) (d : Nat) (neg : Bool) (x : Opd) (ks : List Nat)
  deriving Inhabited
def KCode.bare : KCode → ICode
  | .skip => .skip
  | .reg ops => .reg (ops.map (·.1.o))
  | .draw ops => .draw (ops.map (·.1))
  | .drawP L m ops => .drawP L m (ops.map (·.1))
  | .seq a b => .seq a.bare b.bare
  | .cond c a b => .cond c a.bare b.bare
  | .block id c => .block id c.bare
  | .loop c => .loop c.bare
  | .exit id => .exit id
  | .ret => .ret
  | .kill _ c => c.bare
  | .cut c => c.bare
  | .keep _ c => c.bare
  | .regN ops d neg x _ => .reg (ops.map (·.1.o) ++ [⟨some d, none, .isNil neg 1 x⟩])
def pushK (l : List (DOper × List Nat)) (d : DOper) (e : Env) (v : AV) (p : Pend) : Pend := if rdI d.o.op && l.any (fun x => x.1.chk.contains d.pos) then (d.pos, d.o.op, e, v) :: p else p
def drawK (P : Program) : List (DOper × List Nat) → Pend → Env → Heap → (Env → Heap → Prop) → Prop
  | [], _, e, H, K => K e H
  | (d, ks) :: l, p, e, H, K => match d.o.guard with
    | none => opF P d.o.op e H fun v H' => (isHv d.o.op = true → chkF d.chk p (cutI d.o.op H')) ∧ drawK P l (pushK l d e v p) ((e.setO d.o.dst v).dels ks) H' K
    | some (g, b) => grd (e.get g) b (opF P d.o.op (e.set g (.bool b)) H fun v H' => (isHv d.o.op = true → chkF d.chk p (cutI d.o.op H')) ∧ drawK P l (pushK l d (e.set g (.bool b)) v p) (((e.set g (.bool b)).setO d.o.dst v).dels ks) H' K)
        (drawK P l p (((e.set g (.bool (!b))).setO d.o.dst (.tuple [])).dels ks) H K) (drawK P l p ((e.setO d.o.dst (.tuple [])).dels ks) H K)
def cnd (e : Env) (c : Opd) (A B : Env → Prop) : Prop := match c with
  | .k (.bool true) => A e
  | .k (.bool false) => B e
  | .t t => match e.get t with
    | some (.bool c) => (c = true → A (e.set t (.bool true))) ∧ (c = false → B (e.set t (.bool false)))
    | _ => False
  | _ => False
def loopN (L : Nat) (B : Env → Heap → Post → Prop) : Nat → Env → Heap → Post → Prop
  | 0, _, _, _ => False
  | n + 1, e, H, Q => ∃ e0 H0, Fw.cut L e H e0 H0 ∧ B e0 H0 fun x e' H' => match x with
    | .normal => loopN L B n e' H' Q
    | .exit i => Q (.exit i) e' H'
    | .ret => Q .ret e' H'
def kWP (P : Program) (L : Nat) : KCode → Env → Heap → Post → Prop
  | .skip, e, H, Q => Q .normal e H
  | .reg ops, e, H, Q => drawK P ops [] e H (Q .normal)
  | .draw ops, e, H, Q => drawK P ops [] e H (Q .normal)
  | .drawP _ m ops, e, H, Q => drawK P ops [] e (H ++ List.replicate m (some ⟨[], 1000000, false⟩)) (Q .normal)
  | .seq a b, e, H, Q => kWP P L a e H fun x e' H' => match x with
    | .normal => kWP P L b e' H' Q
    | .exit i => Q (.exit i) e' H'
    | .ret => Q .ret e' H'
  | .cond c a b, e, H, Q => cnd e c (fun e => kWP P L a e H Q) (fun e => kWP P L b e H Q)
  | .block id c, e, H, Q => kWP P L c e H fun x e' H' => match x with
    | .normal => Q .normal e' H'
    | .exit i => if i = id then Q .normal e' H' else Q (.exit i) e' H'
    | .ret => Q .ret e' H'
  | .loop c, e, H, Q => ∃ n, loopN L (kWP P L c) n e H Q
  | .exit id, e, H, Q => Q (.exit id) e H
  | .ret, e, H, Q => Q .ret e H
  | .kill ts c, e, H, Q => kWP P L c (e.dels ts) H Q
  | .keep ts c, e, H, Q => kWP P L c (e.keep ts) H Q
  | .regN ops d neg x ks, e, H, Q => drawK P ops [] e H fun e' H' => ∃ s m xs, e'.opd x = some (.list s m xs) ∧ ∀ b, ((m.nl = true ∨ xs ≠ []) → b = (m.nl != neg)) → Q .normal ((e'.set d (.bool b)).dels ks) H'
  | .cut c, e, H, Q => ∃ e0 H0, Fw.cut L e H e0 H0 ∧ kWP P L c e0 H0 Q
def Post.le (Q Q' : Post) : Prop := ∀ x e e' H, Env.sub e e' → Q x e H → Q' x e' H
theorem opF_mono {P : Program} {o : IOp} {a b : Env} (h : Env.sub a b) {H : Heap} {K K' : AV → Heap → Prop} (hK : ∀ v H', K v H' → K' v H') (hf : opF P o a H K) : opF P o b H K' := by
  unfold opF at hf ⊢
  split at hf
  · obtain ⟨as, h1, r, H', h2, h3⟩ := hf
    exact ⟨as, Env.sub_opds h h1, r, H', h2, hK _ _ h3⟩
  · obtain ⟨g, caps, as, h0, h1, ho, r, H', h2, h3⟩ := hf
    exact ⟨g, caps, as, Env.sub_opd h h0, Env.sub_opds h h1, ho, r, H', h2, hK _ _ h3⟩
  · obtain ⟨as, h1, r, h2, h3⟩ := hf
    exact ⟨as, Env.sub_opds h h1, r, h2, hK _ _ h3⟩
  · split at hf
    · rename_i hh
      rw [if_pos hh]
      split at hf
      · rename_i p v H' hr
        rw [hvF_sub h hr]; exact ⟨hf.1, hK _ _ hf.2⟩
      · exact hf.elim
    · rename_i hh
      rw [if_neg hh]
      split at hf
      · rename_i p v hr
        rw [evF_sub h hr]; exact ⟨hf.1, hK _ _ hf.2⟩
      · exact hf.elim
theorem Env.dels_mono : ∀ (ts : List Nat) {a b : Env}, Env.sub a b → Env.sub (a.dels ts) (b.dels ts)
  | [], _, _, h => h
  | t :: ts, a, b, h => Env.dels_mono ts fun s v hs => by
      rw [Env.get_del] at hs ⊢
      split
      · rename_i hst; rw [if_pos hst] at hs; exact hs
      · rename_i hst; rw [if_neg hst] at hs; exact h s v hs
theorem Env.get_keep (ts : List Nat) : ∀ (e : Env) (t : Nat), (e.keep ts).get t = if ts.contains t = true then e.get t else none
  | [], t => by simp [Env.keep, Env.get]
  | (s, v) :: l, t => by
    have ih := Env.get_keep ts l t
    simp only [Env.keep]
    split
    · rename_i hs
      simp only [Env.get]
      split
      · rename_i q; subst q; rw [if_pos hs]
      · exact ih
    · rename_i hs
      rw [ih]
      split
      · rename_i ht
        have : t ≠ s := fun q => hs (q ▸ ht)
        simp only [Env.get]; rw [if_neg this]
      · rfl
theorem Env.sub_keep (ts : List Nat) (e : Env) : Env.sub (e.keep ts) e := fun t v h => by
  rw [Env.get_keep] at h
  split at h
  · exact h
  · cases h
theorem Env.keep_mono (ts : List Nat) {a b : Env} (h : Env.sub a b) : Env.sub (a.keep ts) (b.keep ts) := fun t v hv => by
  rw [Env.get_keep] at hv ⊢
  split at hv
  · rename_i q; rw [if_pos q]; exact h t v hv
  · cases hv
def PLe (l : List (DOper × List Nat)) (p q : Pend) : Prop := ∀ x ∈ l, ∀ H, chkF x.1.chk p H → chkF x.1.chk q H
theorem PLe.tail {x : DOper × List Nat} {l : List (DOper × List Nat)} {p q : Pend} (h : PLe (x :: l) p q) : PLe l p q := fun y hy => h y (by simp [hy])
theorem PLe.push {l : List (DOper × List Nat)} {d : DOper} {p q : Pend} {a b : Env} {v : AV} (h : PLe l p q) (he : Env.sub a b) : PLe l (pushK l d a v p) (push d true b v q) := by
  intro x hx H hc
  unfold pushK at hc
  unfold Fw.push
  cases hr : rdI d.o.op with
  | false => simp only [hr, Bool.false_and, Bool.and_false, Bool.false_eq_true, if_false] at hc ⊢; exact h x hx H hc
  | true =>
    simp only [hr, Bool.true_and, if_true] at hc ⊢
    split at hc
    · exact ⟨fun k => let ⟨z, h1, h2⟩ := hc.1 k; ⟨z, h1, evF_sub he h2⟩, h x hx H hc.2⟩
    · rename_i hn
      refine ⟨fun k => absurd ?_ hn, h x hx H hc⟩
      exact List.any_eq_true.2 ⟨x, hx, k⟩
theorem PLe.pushK {l : List (DOper × List Nat)} {d : DOper} {p q : Pend} {a b : Env} {v : AV} (h : PLe l p q) (he : Env.sub a b) : PLe l (Fw.pushK l d a v p) (Fw.pushK l d b v q) := by
  intro x hx H hc
  unfold Fw.pushK at hc ⊢
  split
  · rename_i hr
    rw [if_pos hr] at hc
    exact ⟨fun k => let ⟨z, h1, h2⟩ := hc.1 k; ⟨z, h1, evF_sub he h2⟩, h x hx H hc.2⟩
  · rename_i hr
    rw [if_neg hr] at hc
    exact h x hx H hc
theorem drawK_F {P : Program} : ∀ {ops : List (DOper × List Nat)} {p q : Pend} {a b : Env} {H : Heap} {K K' : Env → Heap → Prop}, PLe ops p q → Env.sub a b → (∀ e e' H, Env.sub e e' → K e H → K' e' H) → drawK P ops p a H K → drawF P (ops.map (·.1)) q b H K' := by
  intro ops
  induction ops with
  | nil => intro p q a b H K K' _ h hK hf; exact hK _ _ _ h hf
  | cons o l ih =>
    obtain ⟨d, ks⟩ := o
    intro p q a b H K K' hp h hK hf
    simp only [List.map_cons, drawF]
    simp only [drawK] at hf
    have su : ∀ {a b : Env} {v : AV}, Env.sub a b → Env.sub ((a.setO d.o.dst v).dels ks) (b.setO d.o.dst v) := fun h => Env.sub_trans (Env.sub_dels _ _) (Env.sub_setO h _ _)
    cases hg : d.o.guard with
    | none =>
      rw [hg] at hf
      exact opF_mono h (fun v H' hh => ⟨fun k => hp (d, ks) (by simp) _ (hh.1 k), ih (hp.tail.push h) (su h) hK hh.2⟩) hf
    | some gb =>
      obtain ⟨g, c⟩ := gb
      rw [hg] at hf
      simp only [grd] at hf ⊢
      split at hf
      · rename_i x hc
        simp only [h g _ hc]
        exact ⟨fun y => opF_mono (Env.sub_set h _ _) (fun v H' hh => ⟨fun k => hp (d, ks) (by simp) _ (hh.1 k), ih (hp.tail.push (Env.sub_set h _ _)) (su (Env.sub_set h _ _)) hK hh.2⟩) (hf.1 y), fun y => ih hp.tail (su (Env.sub_set h _ _)) hK (hf.2 y)⟩
      · rename_i hc
        simp only [h g _ hc]
        exact ih hp.tail (su h) hK hf
      · exact hf.elim
theorem drawK_mono {P : Program} : ∀ {ops : List (DOper × List Nat)} {p q : Pend} {a b : Env} {H : Heap} {K K' : Env → Heap → Prop}, PLe ops p q → Env.sub a b → (∀ e e' H, Env.sub e e' → K e H → K' e' H) → drawK P ops p a H K → drawK P ops q b H K' := by
  intro ops
  induction ops with
  | nil => intro p q a b H K K' _ h hK hf; exact hK _ _ _ h hf
  | cons o l ih =>
    obtain ⟨d, ks⟩ := o
    intro p q a b H K K' hp h hK hf
    simp only [drawK] at hf ⊢
    have su : ∀ {a b : Env} {v : AV}, Env.sub a b → Env.sub ((a.setO d.o.dst v).dels ks) ((b.setO d.o.dst v).dels ks) := fun h => Env.dels_mono _ (Env.sub_setO h _ _)
    cases hg : d.o.guard with
    | none =>
      rw [hg] at hf
      exact opF_mono h (fun v H' hh => ⟨fun k => hp (d, ks) (by simp) _ (hh.1 k), ih (hp.tail.pushK h) (su h) hK hh.2⟩) hf
    | some gb =>
      obtain ⟨g, c⟩ := gb
      rw [hg] at hf
      simp only [grd] at hf ⊢
      split at hf
      · rename_i x hc
        simp only [h g _ hc]
        exact ⟨fun y => opF_mono (Env.sub_set h _ _) (fun v H' hh => ⟨fun k => hp (d, ks) (by simp) _ (hh.1 k), ih (hp.tail.pushK (Env.sub_set h _ _)) (su (Env.sub_set h _ _)) hK hh.2⟩) (hf.1 y), fun y => ih hp.tail (su (Env.sub_set h _ _)) hK (hf.2 y)⟩
      · rename_i hc
        simp only [h g _ hc]
        exact ih hp.tail (su h) hK hf
      · exact hf.elim
theorem PLe.refl (l : List (DOper × List Nat)) (p : Pend) : PLe l p p := fun _ _ _ h => h
theorem drawK_reg {P : Program} : ∀ {ops : List (DOper × List Nat)} {p : Pend} {a b : Env} {H : Heap} {K K' : Env → Heap → Prop}, Env.sub a b → (∀ e e' H, Env.sub e e' → K e H → K' e' H) → drawK P ops p a H K → regWP P (ops.map (·.1.o)) b H K' := by
  intro ops
  induction ops with
  | nil => intro p a b H K K' h hK hf; exact hK _ _ _ h hf
  | cons o l ih =>
    obtain ⟨d, ks⟩ := o
    intro p a b H K K' h hK hf
    simp only [List.map_cons, regWP]
    simp only [drawK] at hf
    have su : ∀ {a b : Env} {v : AV}, Env.sub a b → Env.sub ((a.setO d.o.dst v).dels ks) (b.setO d.o.dst v) := fun h => Env.sub_trans (Env.sub_dels _ _) (Env.sub_setO h _ _)
    cases hg : d.o.guard with
    | none =>
      rw [hg] at hf
      exact opF_sound h (fun v H' hh => ih (su h) hK hh.2) hf
    | some gb =>
      obtain ⟨g, c⟩ := gb
      rw [hg] at hf
      simp only [grd] at hf
      split at hf
      · rename_i x hc
        simp only [h g _ hc]
        exact ⟨fun y => opF_sound (Env.sub_set h _ _) (fun v H' hh => ih (su (Env.sub_set h _ _)) hK hh.2) (hf.1 y), fun y => ih (su (Env.sub_set h _ _)) hK (hf.2 y)⟩
      · rename_i hc
        simp only [h g _ hc]
        exact ih (su h) hK hf
      · exact hf.elim
theorem drawK_regA {P : Program} (m : List IOper) : ∀ {ops : List (DOper × List Nat)} {p : Pend} {a b : Env} {H : Heap} {K K' : Env → Heap → Prop}, Env.sub a b → (∀ e e' H, Env.sub e e' → K e H → regWP P m e' H K') → drawK P ops p a H K → regWP P (ops.map (·.1.o) ++ m) b H K' := by
  intro ops
  induction ops with
  | nil => intro p a b H K K' h hK hf; exact hK _ _ _ h hf
  | cons o l ih =>
    obtain ⟨d, ks⟩ := o
    intro p a b H K K' h hK hf
    simp only [List.map_cons, List.cons_append, regWP]
    simp only [drawK] at hf
    have su : ∀ {a b : Env} {v : AV}, Env.sub a b → Env.sub ((a.setO d.o.dst v).dels ks) (b.setO d.o.dst v) := fun h => Env.sub_trans (Env.sub_dels _ _) (Env.sub_setO h _ _)
    cases hg : d.o.guard with
    | none =>
      rw [hg] at hf
      exact opF_sound h (fun v H' hh => ih (su h) hK hh.2) hf
    | some gb =>
      obtain ⟨g, c⟩ := gb
      rw [hg] at hf
      simp only [grd] at hf
      split at hf
      · rename_i x hc
        simp only [h g _ hc]
        exact ⟨fun y => opF_sound (Env.sub_set h _ _) (fun v H' hh => ih (su (Env.sub_set h _ _)) hK hh.2) (hf.1 y), fun y => ih (su (Env.sub_set h _ _)) hK (hf.2 y)⟩
      · rename_i hc
        simp only [h g _ hc]
        exact ih (su h) hK hf
      · exact hf.elim
theorem cut_up {L : Nat} {e e' e0 : Env} {H H0 : Heap} (h : Env.sub e e') (hc : Fw.cut L e H e0 H0) : Fw.cut L e' H e0 H0 := fun n ro bo fr Φ0 Φ a w hb h0 hS hH =>
  hc n ro bo fr Φ0 Φ a w hb h0 ⟨hS.size, hS.defers, fun t v ht => hS.env t v (h t v ht)⟩ hH
theorem loopN_mono {L : Nat} {B B' : Env → Heap → Post → Prop} (hB : ∀ (a b : Env) (H : Heap) (Q Q' : Post), Env.sub a b → Post.le Q Q' → B a H Q → B' b H Q') : ∀ (n : Nat) {a b : Env} {H : Heap} {Q Q' : Post}, Env.sub a b → Post.le Q Q' → loopN L B n a H Q → loopN L B' n b H Q' := by
  intro n
  induction n with
  | zero => intro a b H Q Q' h hQ hf; exact hf.elim
  | succ n ih =>
    intro a b H Q Q' h hQ hf
    obtain ⟨e0, H0, hc, hf⟩ := hf
    refine ⟨e0, H0, cut_up h hc, hB _ _ _ _ _ (Env.sub_refl _) ?_ hf⟩
    intro x e e' H' he hq
    cases x with
    | normal => exact ih he hQ hq
    | exit i => exact hQ _ _ _ _ he hq
    | ret => exact hQ _ _ _ _ he hq
theorem kWP_mono {P : Program} {L : Nat} : ∀ (c : KCode) {a b : Env} {H : Heap} {Q Q' : Post}, Env.sub a b → Post.le Q Q' → kWP P L c a H Q → kWP P L c b H Q' := by
  intro c
  induction c with
  | skip => intro a b H Q Q' h hQ hf; exact hQ _ _ _ _ h hf
  | reg ops => intro a b H Q Q' h hQ hf; exact drawK_mono (PLe.refl _ _) h (fun e e' H' he hq => hQ _ _ _ _ he hq) hf
  | draw ops => intro a b H Q Q' h hQ hf; exact drawK_mono (PLe.refl _ _) h (fun e e' H' he hq => hQ _ _ _ _ he hq) hf
  | drawP L m ops => intro a b H Q Q' h hQ hf; exact drawK_mono (PLe.refl _ _) h (fun e e' H' he hq => hQ _ _ _ _ he hq) hf
  | seq x y ihx ihy =>
    intro a b H Q Q' h hQ hf
    refine ihx h ?_ hf
    intro x e e' H' he hq
    cases x with
    | normal => exact ihy he hQ hq
    | exit i => exact hQ _ _ _ _ he hq
    | ret => exact hQ _ _ _ _ he hq
  | cond c x y ihx ihy =>
    intro a b H Q Q' h hQ hf
    simp only [kWP, cnd] at hf ⊢
    split at hf
    · exact ihx h hQ hf
    · exact ihy h hQ hf
    · rename_i t
      split at hf
      · rename_i v hv
        simp only [h _ _ hv]
        exact ⟨fun k => ihx (Env.sub_set h _ _) hQ (hf.1 k), fun k => ihy (Env.sub_set h _ _) hQ (hf.2 k)⟩
      · exact hf.elim
    · exact hf.elim
  | block id c ih =>
    intro a b H Q Q' h hQ hf
    refine ih h ?_ hf
    intro x e e' H' he hq
    cases x with
    | normal => exact hQ _ _ _ _ he hq
    | exit i =>
      simp only at hq ⊢
      split
      · rename_i hi; rw [if_pos hi] at hq; exact hQ _ _ _ _ he hq
      · rename_i hi; rw [if_neg hi] at hq; exact hQ _ _ _ _ he hq
    | ret => exact hQ _ _ _ _ he hq
  | loop c ih =>
    intro a b H Q Q' h hQ hf
    obtain ⟨n, hf⟩ := hf
    exact ⟨n, loopN_mono (B' := kWP P L c) (fun _ _ _ _ _ h1 h2 h3 => ih h1 h2 h3) n h hQ hf⟩
  | exit id => intro a b H Q Q' h hQ hf; exact hQ _ _ _ _ h hf
  | ret => intro a b H Q Q' h hQ hf; exact hQ _ _ _ _ h hf
  | kill ts c ih => intro a b H Q Q' h hQ hf; exact ih (Env.dels_mono _ h) hQ hf
  | keep ts c ih => intro a b H Q Q' h hQ hf; exact ih (Env.keep_mono _ h) hQ hf
  | regN ops d neg x ks =>
    intro a b H Q Q' h hQ hf
    refine drawK_mono (PLe.refl _ _) h (fun e e' H' he hq => ?_) hf
    obtain ⟨s, m, xs, h1, h2⟩ := hq
    exact ⟨s, m, xs, Env.sub_opd he h1, fun b hb => hQ _ _ _ _ (Env.dels_mono _ (Env.sub_set he _ _)) (h2 b hb)⟩
  | cut c ih =>
    intro a b H Q Q' h hQ hf
    obtain ⟨e0, H0, hc, hf⟩ := hf
    exact ⟨e0, H0, cut_up h hc, ih (Env.sub_refl _) hQ hf⟩
def Post.up (Q : Post) : Prop := Post.le Q Q
section
variable {P : Program} {ro bo fr : Mem} {Φ : Emb} {e : Env} {H : Heap} {a : Act} {w w' : World}
theorem EnvOK.sub {e e' : Env} (h : Env.sub e e') (hE : EnvOK ro bo Φ e' a) : EnvOK ro bo Φ e a := fun t v ht => hE t v (h t v ht)
theorem lowCode_inv {n : Nat} {fl : List (Nat × Nat)} {od : List (Nat × List Nat)} {c : Code} {ic : ICode} (h : lowCode P n fl od c = some ic) : match ic with
    | .skip => c = .skip
    | .reg l => ∃ id ops, c = .region id ops false ∧ lowOps P n fl id ops ops.toList 0 = some l
    | .draw l => ∃ id ops il, c = .region id ops true ∧ LowL P n ops il ∧ P.follows .mixedOrders = true ∧ lowDraw ops il (orderOf od id ops.size) = some l
    | .drawP _ _ l => ∃ id ops il, c = .region id ops true ∧ LowL P n ops il ∧ P.follows .mixedOrders = true ∧ lowDraw ops il (orderOf od id ops.size) = some l
    | .seq x y => ∃ p q, c = .seq p q ∧ lowCode P n fl od p = some x ∧ lowCode P n fl od q = some y
    | .cond z x y => ∃ o p q, c = .cond o p q ∧ lowO o = some z ∧ lowCode P n fl od p = some x ∧ lowCode P n fl od q = some y
    | .block id x => ∃ p, c = .block id p ∧ lowCode P n fl od p = some x
    | .loop x => ∃ p, c = .loop p ∧ lowCode P n fl od p = some x
    | .exit id => c = .exit id
    | .ret => c = .ret := by
  cases c with
  | skip => simp [lowCode] at h; subst h; rfl
  | region id ops d =>
    simp only [lowCode] at h
    cases ho : lowOps P n fl id ops ops.toList 0 with
    | none => rw [ho] at h; cases h
    | some il =>
      rw [ho] at h
      cases d with
      | true =>
        simp only [if_true] at h
        split at h
        · rename_i hm
          split at h
          · obtain ⟨l, hd, rfl⟩ := map_some h
            exact ⟨_, _, _, rfl, LowL_of ho, hm, hd⟩
          · split at h
            · rename_i hl'
              obtain ⟨l, hd, rfl⟩ := map_some h
              exact ⟨_, _, _, rfl, LowL_aft (LowL_of ho) hl', hm, hd⟩
            · cases h
        · cases h
      | false =>
        simp at h; subst h
        exact ⟨_, _, rfl, ho⟩
  | seq x y =>
    simp only [lowCode] at h
    split at h <;> cases h
    exact ⟨_, _, rfl, by assumption, by assumption⟩
  | cond o x y =>
    simp only [lowCode] at h
    split at h <;> cases h
    exact ⟨_, _, _, rfl, by assumption, by assumption, by assumption⟩
  | block id x => obtain ⟨y, hy, rfl⟩ := map_some h; exact ⟨_, rfl, hy⟩
  | loop x => obtain ⟨y, hy, rfl⟩ := map_some h; exact ⟨_, rfl, hy⟩
  | exit id => simp [lowCode] at h; subst h; rfl
  | ret => simp [lowCode] at h; subst h; rfl
  | _ => simp [lowCode] at h
theorem Cp0.of {n : Nat} {Φ0 : Emb} {K : Env → Heap → Prop} {a' : Act} {w' : World} (h0 : Emb.le Φ0 Φ) (h : Cpost n ro bo fr Φ w K a' w') : Cp0 n ro bo fr Φ0 w K a' w' := by
  obtain ⟨e', H', ro', Φ', g1, g2, g3, g4, g5, g6⟩ := h
  exact ⟨e', H', ro', Φ', g1, g2, g3, g4, Emb.le_trans h0 g5, g6⟩
theorem k_sound {L n : Nat} {fl : List (Nat × Nat)} {od : List (Nat × List Nat)} (hb : Mem.le bo fr) {Φ0 : Emb} (hd : ∀ i p, Φ0 i = some p → i < L) : ∀ (k : KCode) (c : Code) (Q : Post) (ro : Mem) (Φ : Emb) (e : Env) (H : Heap) (a : Act) (w : World), lowCode P n fl od c = some k.bare → Q.up → Emb.le Φ0 Φ → St n ro bo Φ e a → Holds ro fr Φ H w → kWP P L k e H Q →
    c.wp P (lift n ro bo fr Φ0 w Q) a w := by
  intro k
  induction k with
  | skip =>
    intro c Q ro Φ e H a w hl hQ h0 hS hH h
    have := lowCode_inv hl; simp only [KCode.bare] at this; subst this
    exact wp_skip ⟨e, H, ro, Φ, h, hS, hH, Mem.le_refl _, h0, WExt.refl _⟩
  | reg ops =>
    intro c Q ro Φ e H a w hl hQ h0 hS hH h
    have := lowCode_inv hl; simp only [KCode.bare] at this
    obtain ⟨id, ops', rfl, ho⟩ := this
    have h : drawK P ops [] e H (Q .normal) := h
    exact wp_region_list (reg_sound hb ops'.toList 0 _ ro Φ e H a w ho hS hH (drawK_reg (K := Q .normal) (K' := Q .normal) (Env.sub_refl _) (fun e e' H' he hq => hQ _ _ _ _ he hq) h) fun a' w' hc => Cp0.of h0 hc)
  | draw ops =>
    intro c Q ro Φ e H a w hl hQ h0 hS hH h
    have := lowCode_inv hl; simp only [KCode.bare] at this
    obtain ⟨id, ops', il, rfl, ho, hm, hdr⟩ := this
    refine wp_mono (draw_sound (Q := Q .normal) ho hm hdr hb hS hH (drawK_F (PLe.refl _ _) (Env.sub_refl _) (fun e e' H' he hq e2 h2 => hQ _ _ _ _ (Env.sub_trans he h2) hq) h)) ?_
    rintro x a' w' ⟨rfl, hc⟩
    exact Cp0.of h0 hc
  | drawP L0 m ops =>
    intro c Q ro Φ e H a w hl hQ h0 hS hH h
    have := lowCode_inv hl; simp only [KCode.bare] at this
    obtain ⟨id, ops', il, rfl, ho, hm, hdr⟩ := this
    refine wp_mono (draw_sound (Q := Q .normal) ho hm hdr hb hS (hH.pad m 1000000) (drawK_F (PLe.refl _ _) (Env.sub_refl _) (fun e e' H' he hq e2 h2 => hQ _ _ _ _ (Env.sub_trans he h2) hq) h)) ?_
    rintro x a' w' ⟨rfl, hc⟩
    exact Cp0.of h0 hc
  | seq x y ihx ihy =>
    intro c Q ro Φ e H a w hl hQ h0 hS hH h
    have := lowCode_inv hl; simp only [KCode.bare] at this
    obtain ⟨p, q, rfl, hx, hy⟩ := this
    refine wp_seq (wp_mono (ihx p _ ro Φ e H a w hx ?_ h0 hS hH h) ?_)
    · intro x e e' H' he hq
      cases x with
      | normal => exact kWP_mono y he hQ hq
      | exit i => exact hQ _ _ _ _ he hq
      | ret => exact hQ _ _ _ _ he hq
    intro ex a' w' hq
    cases ex with
    | normal =>
      obtain ⟨e', H', ro', Φ', g1, g2, g3, g4, g5, g6⟩ := hq
      refine wp_mono (ihy q Q ro' Φ' e' H' a' w' hy hQ g5 g2 g3 g1) ?_
      intro ex2 a'' w'' hq2
      cases ex2 <;> first | exact hq2.trans g4 g6 | exact hq2.elim
    | exit i => exact hq
    | ret => exact hq
    | goto l => exact hq.elim
    | panic ch => exact hq.elim
    | outgrown => exact hq.elim
  | cond o x y ihx ihy =>
    intro c Q ro Φ e H a w hl hQ h0 hS hH h
    have := lowCode_inv hl; simp only [KCode.bare] at this
    obtain ⟨oc, p, q, rfl, hc, hx, hy⟩ := this
    simp only [kWP, cnd] at h
    have kc : ∀ {b : Bool}, o = .k (.bool b) → a.eval oc = .bool b := by
      intro b hic
      subst hic
      exact (opd_sound (v := .bool b) hS.env hc rfl).bool_inv
    split at h
    · exact wp_cond (kc rfl) (ihx p Q ro Φ e H a w hx hQ h0 hS hH h)
    · exact wp_cond (kc rfl) (ihy q Q ro Φ e H a w hy hQ h0 hS hH h)
    · rename_i t
      split at h
      · rename_i cb hg
        have hcb := (opd_sound (v := .bool cb) hS.env hc hg).bool_inv
        cases cb with
        | true => exact wp_cond hcb (ihx p Q ro Φ _ H a w hx hQ h0 (hS.set_same hg rfl) hH (h.1 rfl))
        | false => exact wp_cond hcb (ihy q Q ro Φ _ H a w hy hQ h0 (hS.set_same hg rfl) hH (h.2 rfl))
      · exact h.elim
    · exact h.elim
  | block id x ih =>
    intro c Q ro Φ e H a w hl hQ h0 hS hH h
    have := lowCode_inv hl; simp only [KCode.bare] at this
    obtain ⟨p, rfl, hx⟩ := this
    refine wp_block (wp_mono (ih p _ ro Φ e H a w hx ?_ h0 hS hH h) ?_)
    · intro x e e' H' he hq
      cases x with
      | normal => exact hQ _ _ _ _ he hq
      | exit i =>
        simp only at hq ⊢
        split
        · rename_i hi; rw [if_pos hi] at hq; exact hQ _ _ _ _ he hq
        · rename_i hi; rw [if_neg hi] at hq; exact hQ _ _ _ _ he hq
      | ret => exact hQ _ _ _ _ he hq
    intro ex a' w' hq
    cases ex with
    | normal => exact hq
    | exit i =>
      simp only [Exit.inBlock]
      obtain ⟨e', H', ro', Φ', g1, g2⟩ := hq
      simp only at g1
      split
      · rename_i hi; rw [if_pos hi] at g1; exact ⟨e', H', ro', Φ', g1, g2⟩
      · rename_i hi; rw [if_neg hi] at g1; exact ⟨e', H', ro', Φ', g1, g2⟩
    | ret => exact hq
    | goto l => exact hq.elim
    | panic ch => exact hq.elim
    | outgrown => exact hq.elim
  | loop x ih =>
    intro c Q ro Φ e H a w hl hQ h0 hS hH h
    have := lowCode_inv hl; simp only [KCode.bare] at this
    obtain ⟨p, rfl, hx⟩ := this
    obtain ⟨m, h⟩ := h
    refine wp_loop_n (fun m a' w' => Cp0 n ro bo fr Φ0 w (fun e' H' => loopN L (kWP P L x) m e' H' Q) a' w') ?_ ?_ m ⟨e, H, ro, Φ, h, hS, hH, Mem.le_refl _, h0, WExt.refl _⟩
    · rintro a' w' ⟨_, _, _, _, g1, _⟩; exact g1
    · rintro m a' w' ⟨e', H', ro', Φ', g1, g2, g3, g4, g5, g6⟩
      obtain ⟨e0, H0, hcut, g1⟩ := g1
      obtain ⟨ro2, Φ2, k1, k2, k3, k4⟩ := hcut n ro' bo fr Φ0 Φ' a' w' hb (fun i p hi => ⟨hd i p hi, g5 i p hi⟩) g2 g3
      refine wp_mono (ih p _ ro2 Φ2 e0 H0 a' w' hx ?_ k4 k1 k2 g1) ?_
      · intro x2 e e' H' he hq
        cases x2 with
        | normal => exact loopN_mono (B' := kWP P L x) (fun _ _ _ _ _ h1 h2 h3 => kWP_mono x h1 h2 h3) m he hQ hq
        | exit i => exact hQ _ _ _ _ he hq
        | ret => exact hQ _ _ _ _ he hq
      intro ex a'' w'' hq
      have hr := Mem.le_trans g4 k3
      cases ex with
      | normal => exact hq.trans hr g6
      | exit i => exact hq.trans hr g6
      | ret => exact hq.trans hr g6
      | goto l => exact hq.elim
      | panic ch => exact hq.elim
      | outgrown => exact hq.elim
  | exit id =>
    intro c Q ro Φ e H a w hl hQ h0 hS hH h
    have := lowCode_inv hl; simp only [KCode.bare] at this; subst this
    exact wp_exit ⟨e, H, ro, Φ, h, hS, hH, Mem.le_refl _, h0, WExt.refl _⟩
  | ret =>
    intro c Q ro Φ e H a w hl hQ h0 hS hH h
    have := lowCode_inv hl; simp only [KCode.bare] at this; subst this
    exact wp_ret ⟨e, H, ro, Φ, h, hS, hH, Mem.le_refl _, h0, WExt.refl _⟩
  | kill ts x ih =>
    intro c Q ro Φ e H a w hl hQ h0 hS hH h
    exact ih c Q ro Φ _ H a w hl hQ h0 ⟨hS.size, hS.defers, hS.env.sub (Env.sub_dels _ _)⟩ hH h
  | regN ops d neg x ks =>
    intro c Q ro Φ e H a w hl hQ h0 hS hH h
    have := lowCode_inv hl; simp only [KCode.bare] at this
    obtain ⟨id, ops', rfl, ho⟩ := this
    have h : drawK P ops [] e H (fun e' H' => ∃ s m xs, e'.opd x = some (.list s m xs) ∧ ∀ b, ((m.nl = true ∨ xs ≠ []) → b = (m.nl != neg)) → Q .normal ((e'.set d (.bool b)).dels ks) H') := h
    refine wp_region_list (reg_sound (K := Q .normal) hb ops'.toList 0 _ ro Φ e H a w ho hS hH (drawK_regA _ (Env.sub_refl _) (fun e e' H' he hq => ?_) h) fun a' w' hc => Cp0.of h0 hc)
    obtain ⟨s, m, xs, h1, h2⟩ := hq
    simp only [regWP, opWP, isHv, ev, Bool.false_eq_true, if_false]
    refine ⟨_, Env.sub_opd he h1, ?_⟩
    by_cases hc : m.nl = true ∨ xs ≠ []
    · exact .inl ⟨hc, hQ _ _ _ _ (Env.sub_trans (Env.sub_dels _ _) (Env.sub_set he _ _)) (h2 _ fun _ => rfl)⟩
    · exact .inr fun b => hQ _ _ _ _ (Env.sub_trans (Env.sub_dels _ _) (Env.sub_set he _ _)) (h2 b fun q => absurd q hc)
  | keep ts x ih =>
    intro c Q ro Φ e H a w hl hQ h0 hS hH h
    exact ih c Q ro Φ _ H a w hl hQ h0 ⟨hS.size, hS.defers, hS.env.sub (Env.sub_keep _ _)⟩ hH h
  | cut x ih =>
    intro c Q ro Φ e H a w hl hQ h0 hS hH h
    obtain ⟨e0, H0, hcut, h⟩ := h
    obtain ⟨ro2, Φ2, k1, k2, k3, k4⟩ := hcut n ro bo fr Φ0 Φ a w hb (fun i p hi => ⟨hd i p hi, h0 i p hi⟩) hS hH
    refine wp_mono (ih c Q ro2 Φ2 e0 H0 a w hl hQ k4 k1 k2 h) ?_
    intro ex a' w' hq
    cases ex with
    | normal => exact hq.trans k3 (WExt.refl _)
    | exit i => exact hq.trans k3 (WExt.refl _)
    | ret => exact hq.trans k3 (WExt.refl _)
    | goto l => exact hq.elim
    | panic ch => exact hq.elim
    | outgrown => exact hq.elim
end
theorem resL_sub {R : List AV → Prop} {H : Heap} {a b : Env} (h : Env.sub a b) : ∀ {rs : List IRes} {K : List AV → Prop}, resL rs a H K → resL rs b H K
  | [], K, hr => hr
  | .tmp t :: l, K, hr => by
    simp only [resL] at hr ⊢
    split at hr
    · rename_i v hv
      simp only [h _ _ hv]
      exact resL_sub (R := R) h hr
    · exact hr.elim
  | .cell t n :: l, K, hr => by
    simp only [resL] at hr ⊢
    cases hg : a.get t with
    | none => rw [hg] at hr; exact hr.elim
    | some p =>
      rw [hg] at hr
      simp only [h _ _ hg]
      cases p <;> try exact hr.elim
      simp only at hr ⊢
      have : ∀ {K1 K2 : AV → Prop}, (∀ v, K1 v → K2 v) → ∀ {v : AV}, loadWP H v n K1 → loadWP H v n K2 := by
        intro K1 K2 hk v hl
        unfold loadWP at hl ⊢
        split at hl
        · obtain ⟨b, c, h1, h2, h3⟩ := hl; exact ⟨b, c, h1, h2, hk _ h3⟩
        · obtain ⟨b, h1, h2, h3⟩ := hl; exact ⟨b, h1, h2, hk _ h3⟩
        · obtain ⟨c, h2, h3⟩ := hl; exact ⟨c, h2, hk _ h3⟩
        · obtain ⟨h2, h3⟩ := hl; exact ⟨h2, hk _ h3⟩
        · exact hl.elim
      exact this (fun v => resL_sub (R := R) h) hr
theorem retPost_le {rs : List IRes} {R : AV → Heap → Prop} : Post.le (retPost rs R) (retPost rs R) := by
  intro x e e' H h hq
  cases x with
  | normal => exact resL_sub (R := fun _ => True) h hq
  | exit i => exact hq
  | ret => exact resL_sub (R := fun _ => True) h hq
section
variable {P : Program}
theorem FSpec.of_k {f : FuncId} {fl : List (Nat × Nat)} {od : List (Nat × List Nat)} {k : KCode} {rs : List IRes} {n : Nat} {args : List AV} {H : Heap} {r : AV} {H' : Heap} (hl : lowFunc P f fl od = some ⟨k.bare, rs, n⟩) (hn : args.length ≤ n)
    (h : kWP P H.length k (initEnv 0 args) H (retPost rs (fin H.length r H'))) : FSpec P f args H r H' := by
  intro ro bo fr Φ w vs hvs hV hH hb
  unfold lowFunc at hl
  cases hf : P.funcs[f]? with
  | none => rw [hf] at hl; cases hl
  | some fn =>
    rw [hf] at hl; simp only at hl
    split at hl
    · cases hl
    rename_i hnm
    cases hbd : fn.body with
    | none => rw [hbd] at hl; cases hl
    | some c =>
      rw [hbd] at hl; simp only at hl
      cases hc : lowCode P fn.ntmps fl od c with
      | none => rw [hc] at hl; cases hl
      | some ic =>
        cases hr : lowRes P fn.results.toList with
        | none => rw [hc, hr] at hl; cases hl
        | some rs' =>
          rw [hc, hr] at hl
          simp only [Option.some.injEq, IFun.mk.injEq] at hl
          obtain ⟨rfl, rfl, rfl⟩ := hl
          refine .inl ⟨by unfold okFn; rw [hf]; simp [hbd]; simpa using hnm, ?_⟩
          refine calls_of_wp hf hbd ?_
          have hS : St fn.ntmps ro bo Φ (initEnv 0 args) { tmps := vs ++ Array.replicate (fn.ntmps - vs.size) undef, defers := [] } := by
            refine ⟨by simp at hn ⊢; omega, rfl, fun t v ht => ?_⟩
            rw [initEnv_get, if_pos (Nat.zero_le _), Nat.sub_zero] at ht
            have hlt : t < vs.size := by rw [hvs]; exact (List.getElem?_eq_some_iff.1 ht).1
            refine ⟨vs[t], ?_, hV t v vs[t] ht (by simp [hlt])⟩
            rw [Array.getElem?_append_left hlt]; simp [hlt]
          refine wp_mono (k_sound hb (Φ0 := Φ) (fun i p hi => hH.dom i p hi) k c _ ro Φ _ H _ w hc retPost_le (Emb.le_refl _) hS hH h) ?_
          intro ex a' w' hq
          have fin_ok : ∀ {e : Env} {Hx : Heap} {ro' : Mem} {Φ' : Emb}, resL rs' e Hx (fun vs => fin H.length r H' (one vs) Hx) → St fn.ntmps ro' bo Φ' e a' → Holds ro' fr Φ' Hx w' → Mem.le ro ro' → Emb.le Φ Φ' → WExt w w' →
              a'.defers = [] ∧ ∃ v, (results fn a'.tmps).run P w' = .ok v w' ∧ ∃ u ro' Φ', Ending.returned v = .returned u ∧ VR ro' bo Φ' r u ∧ Holds ro' fr Φ' H' w' ∧ Mem.le ro ro' ∧ Emb.le Φ Φ' ∧ WExt w w' := by
            intro e Hx ro' Φ' g1 g2 g3 g4 g5 g6
            obtain ⟨vs, us, k1, k2, k3, k4⟩ := resL_sound hr g2.env g3 hb g1
            obtain ⟨ro2, Φ2, q1, q2, q3, q4⟩ := fin_sound k1 hb (fun i p hi => ⟨hH.dom i p hi, g5 i p hi⟩) (VR.one k2 k3) g3
            exact ⟨g2.defers, _, results_run k4, _, ro2, Φ2, rfl, q1, q2, Mem.le_trans g4 q3, q4, g6⟩
          cases ex with
          | normal =>
            obtain ⟨e', Hx, ro', Φ', g1, g2, g3, g4, g5, g6⟩ := hq
            exact fin_ok g1 g2 g3 g4 g5 g6
          | ret =>
            obtain ⟨e', Hx, ro', Φ', g1, g2, g3, g4, g5, g6⟩ := hq
            exact fin_ok g1 g2 g3 g4 g5 g6
          | exit i =>
            obtain ⟨e', Hx, ro', Φ', g1, _⟩ := hq
            exact g1.elim
          | goto l => exact hq.elim
          | panic ch => exact hq.elim
          | outgrown => exact hq.elim
end
end Go.Fw
namespace Go.Fw
def o1 (d : Nat) (o : IOp) (ks : List Nat) : DOper × List Nat := (⟨⟨some d, none, o⟩, 0, []⟩, ks)
def o2 (d pos : Nat) (o : IOp) (ks : List Nat) : DOper × List Nat := (⟨⟨some d, none, o⟩, pos, []⟩, ks)
inductive It where
  | c (c : KCode)
  | blk (id : Nat)
  | lp (n : Nat) (c : KCode)
  | li (R : Env → Heap → Prop) (hR : ∀ e e' H, Env.sub e e' → R e H → R e' H)
def exK (P : Program) (L : Nat) : List It → Post → Post
  | [], Q => Q
  | .c c :: k, Q => fun x e H => match x with
    | .normal => kWP P L c e H (exK P L k Q)
    | .exit i => exK P L k Q (.exit i) e H
    | .ret => exK P L k Q .ret e H
  | .blk id :: k, Q => fun x e H => match x with
    | .normal => exK P L k Q .normal e H
    | .exit i => if i = id then exK P L k Q .normal e H else exK P L k Q (.exit i) e H
    | .ret => exK P L k Q .ret e H
  | .lp n c :: k, Q => fun x e H => match x with
    | .normal => loopN L (kWP P L c) n e H (exK P L k Q)
    | .exit i => exK P L k Q (.exit i) e H
    | .ret => exK P L k Q .ret e H
  | .li R _ :: k, Q => fun x e H => match x with
    | .normal => R e H
    | .exit i => exK P L k Q (.exit i) e H
    | .ret => exK P L k Q .ret e H
section
variable (P : Program) (L : Nat)
def W (k : List It) (e : Env) (H : Heap) (Q : Post) : Prop := exK P L k Q .normal e H
def WX (i : Nat) (k : List It) (e : Env) (H : Heap) (Q : Post) : Prop := exK P L k Q (.exit i) e H
def WR (l : List (DOper × List Nat)) (p : Pend) (e : Env) (H : Heap) (k : List It) (Q : Post) : Prop := drawK P l p e H (exK P L k Q .normal)
def WO (o : IOp) (pos : Nat) (chk : List Nat) (d : Option Nat) (ks : List Nat) (l : List (DOper × List Nat)) (p : Pend) (e : Env) (H : Heap) (k : List It) (Q : Post) : Prop :=
  opF P o e H fun v H' => (isHv o = true → chkF chk p (cutI o H')) ∧ drawK P l (if rdI o && l.any (fun x => x.1.chk.contains pos) then (pos, o, e, v) :: p else p) ((e.setO d v).dels ks) H' (exK P L k Q .normal)
def WS (r : R1) (d : Option Nat) (ks : List Nat) (l : List (DOper × List Nat)) (p : Pend) (e : Env) (H : Heap) (k : List It) (Q : Post) : Prop := match r with
  | some (q, v) => q ∧ WR P L l p ((e.setO d v).dels ks) H k Q
  | none => False
def WSr (r : R1) (keep : Bool) (o : IOp) (pos : Nat) (d : Option Nat) (ks : List Nat) (l : List (DOper × List Nat)) (p : Pend) (e : Env) (H : Heap) (k : List It) (Q : Post) : Prop := match r with
  | some (q, v) => q ∧ WR P L l (if keep = true then (pos, o, e, v) :: p else p) ((e.setO d v).dels ks) H k Q
  | none => False
def WH (r : R2) (chk : List Nat) (d : Option Nat) (ks : List Nat) (l : List (DOper × List Nat)) (p : Pend) (e : Env) (k : List It) (Q : Post) : Prop := match r with
  | some (q, v, H') => q ∧ chkF chk p H' ∧ WR P L l p ((e.setO d v).dels ks) H' k Q
  | none => False
def WHA (L0 : Nat) (r : R2) (chk : List Nat) (d : Option Nat) (ks : List Nat) (l : List (DOper × List Nat)) (p : Pend) (e : Env) (k : List It) (Q : Post) : Prop := match r with
  | some (q, v, H') => q ∧ chkF chk p (H'.take L0) ∧ WR P L l p ((e.setO d v).dels ks) H' k Q
  | none => False
def WG (o : Option AV) (g : Nat) (b : Bool) (op : IOp) (pos : Nat) (chk : List Nat) (d : Option Nat) (ks : List Nat) (l : List (DOper × List Nat)) (p : Pend) (e : Env) (H : Heap) (k : List It) (Q : Post) : Prop := match o with
  | some (.bool c) => (c = b → WO P L op pos chk d ks l p (e.set g (.bool b)) H k Q) ∧ (c = !b → WR P L l p (((e.set g (.bool (!b))).setO d (.tuple [])).dels ks) H k Q)
  | some (.tuple []) => WR P L l p ((e.setO d (.tuple [])).dels ks) H k Q
  | _ => False
def WC (o : Option AV) (t : Nat) (a b : KCode) (e : Env) (H : Heap) (k : List It) (Q : Post) : Prop := match o with
  | some (.bool c) => (c = true → W P L (.c a :: k) (e.set t (.bool true)) H Q) ∧ (c = false → W P L (.c b :: k) (e.set t (.bool false)) H Q)
  | _ => False
end
section
variable {P : Program} {L : Nat} {k : List It} {e : Env} {H : Heap} {Q : Post}
theorem W_nil : W P L [] e H Q ↔ Q .normal e H := Iff.rfl
theorem W_skip : W P L (.c .skip :: k) e H Q ↔ W P L k e H Q := Iff.rfl
theorem W_seq {a b : KCode} : W P L (.c (.seq a b) :: k) e H Q ↔ W P L (.c a :: .c b :: k) e H Q := Iff.rfl
theorem W_reg {l : List (DOper × List Nat)} : W P L (.c (.reg l) :: k) e H Q ↔ WR P L l [] e H k Q := Iff.rfl
theorem W_draw {l : List (DOper × List Nat)} : W P L (.c (.draw l) :: k) e H Q ↔ WR P L l [] e H k Q := Iff.rfl
theorem W_drawP {B m : Nat} {l : List (DOper × List Nat)} : W P L (.c (.drawP B m l) :: k) e H Q ↔ WR P L l [] e (H ++ List.replicate m (some ⟨[], 1000000, false⟩)) k Q := Iff.rfl
theorem W_kill {ts : List Nat} {c : KCode} : W P L (.c (.kill ts c) :: k) e H Q ↔ W P L (.c c :: k) (e.dels ts) H Q := Iff.rfl
theorem W_keep {ts : List Nat} {c : KCode} : W P L (.c (.keep ts c) :: k) e H Q ↔ W P L (.c c :: k) (e.keep ts) H Q := Iff.rfl
theorem W_block {id : Nat} {c : KCode} : W P L (.c (.block id c) :: k) e H Q ↔ W P L (.c c :: .blk id :: k) e H Q := Iff.rfl
theorem W_blk {id : Nat} : W P L (.blk id :: k) e H Q ↔ W P L k e H Q := Iff.rfl
theorem W_exit {id : Nat} : W P L (.c (.exit id) :: k) e H Q ↔ WX P L id k e H Q := Iff.rfl
theorem W_ret : W P L (.c .ret :: k) e H Q ↔ Q .ret e H := by
  unfold W
  simp only [exK, kWP]
  induction k with
  | nil => rfl
  | cons x k ih => cases x <;> exact ih
theorem WX_blk {i id : Nat} : WX P L i (.blk id :: k) e H Q ↔ if i = id then W P L k e H Q else WX P L i k e H Q := Iff.rfl
theorem WX_c {i : Nat} {c : KCode} : WX P L i (.c c :: k) e H Q ↔ WX P L i k e H Q := Iff.rfl
theorem WX_lp {i n : Nat} {c : KCode} : WX P L i (.lp n c :: k) e H Q ↔ WX P L i k e H Q := Iff.rfl
theorem WX_li {i : Nat} {R : Env → Heap → Prop} {hR : ∀ e e' H, Env.sub e e' → R e H → R e' H} : WX P L i (.li R hR :: k) e H Q ↔ WX P L i k e H Q := Iff.rfl
theorem W_li {R : Env → Heap → Prop} {hR : ∀ e e' H, Env.sub e e' → R e H → R e' H} : W P L (.li R hR :: k) e H Q ↔ R e H := Iff.rfl
theorem W_condT {a b : KCode} : W P L (.c (.cond (.k (.bool true)) a b) :: k) e H Q ↔ W P L (.c a :: k) e H Q := Iff.rfl
theorem W_condF {a b : KCode} : W P L (.c (.cond (.k (.bool false)) a b) :: k) e H Q ↔ W P L (.c b :: k) e H Q := Iff.rfl
theorem W_cond {t : Nat} {a b : KCode} : W P L (.c (.cond (.t t) a b) :: k) e H Q ↔ WC P L (e.get t) t a b e H k Q := Iff.rfl
theorem WC_bool {t : Nat} {c : Bool} {a b : KCode} : WC P L (some (.bool c)) t a b e H k Q ↔ (c = true → W P L (.c a :: k) (e.set t (.bool true)) H Q) ∧ (c = false → W P L (.c b :: k) (e.set t (.bool false)) H Q) := Iff.rfl
theorem WR_nil {p : Pend} : WR P L [] p e H k Q ↔ W P L k e H Q := Iff.rfl
section
variable {p : Pend} {d : Option Nat} {g pos : Nat} {b c : Bool} {o : IOp} {ks chk : List Nat} {l : List (DOper × List Nat)} {q : Prop} {v : AV} {H' : Heap}
theorem WR_cons : WR P L ((⟨⟨d, none, o⟩, pos, chk⟩, ks) :: l) p e H k Q ↔ WO P L o pos chk d ks l p e H k Q := Iff.rfl
theorem o1_chk (d : Nat) : (o1 d o ks).1.chk = [] := rfl
theorem o2_chk (d : Nat) : (o2 d pos o ks).1.chk = [] := rfl
theorem WR_o1 {d : Nat} : WR P L (o1 d o ks :: l) p e H k Q ↔ WO P L o 0 [] (some d) ks l p e H k Q := Iff.rfl
theorem WR_o2 {d : Nat} : WR P L (o2 d pos o ks :: l) p e H k Q ↔ WO P L o pos [] (some d) ks l p e H k Q := Iff.rfl
theorem WR_grd : WR P L ((⟨⟨d, some (g, b), o⟩, pos, chk⟩, ks) :: l) p e H k Q ↔ WG P L (e.get g) g b o pos chk d ks l p e H k Q := Iff.rfl
theorem WG_bool : WG P L (some (.bool c)) g b o pos chk d ks l p e H k Q ↔
    (c = b → WO P L o pos chk d ks l p (e.set g (.bool b)) H k Q) ∧ (c = !b → WR P L l p (((e.set g (.bool (!b))).setO d (.tuple [])).dels ks) H k Q) := Iff.rfl
theorem WG_none : WG P L (some (.tuple [])) g b o pos chk d ks l p e H k Q ↔ WR P L l p ((e.setO d (.tuple [])).dels ks) H k Q := Iff.rfl
theorem WS_some : WS P L (some (q, v)) d ks l p e H k Q ↔ q ∧ WR P L l p ((e.setO d v).dels ks) H k Q := Iff.rfl
theorem WS_ok1 : WS P L (ok1 v) d ks l p e H k Q ↔ WR P L l p ((e.setO d v).dels ks) H k Q := by simp [ok1, WS]
theorem WSr_no {r : R1} : WSr P L r false o pos d ks l p e H k Q ↔ WS P L r d ks l p e H k Q := by unfold WSr WS; cases r <;> simp
theorem WSr_some : WSr P L (some (q, v)) true o pos d ks l p e H k Q ↔ q ∧ WR P L l ((pos, o, e, v) :: p) ((e.setO d v).dels ks) H k Q := by simp [WSr]
theorem WSr_ok1 : WSr P L (ok1 v) true o pos d ks l p e H k Q ↔ WR P L l ((pos, o, e, v) :: p) ((e.setO d v).dels ks) H k Q := by simp [ok1, WSr]
theorem WHA_some {L0 : Nat} : WHA P L L0 (some (q, v, H')) chk d ks l p e k Q ↔ q ∧ chkF chk p (H'.take L0) ∧ WR P L l p ((e.setO d v).dels ks) H' k Q := Iff.rfl
theorem WH_some : WH P L (some (q, v, H')) chk d ks l p e k Q ↔ q ∧ chkF chk p H' ∧ WR P L l p ((e.setO d v).dels ks) H' k Q := Iff.rfl
theorem WO_call {f : FuncId} {args : List Opd} {as : List AV} {r : AV} (h1 : e.opds args = some as) (h2 : FSpec P f as H r H') (h3 : chkF chk p H') (h4 : WR P L l p ((e.setO d r).dels ks) H' k Q) :
    WO P L (.call f args) pos chk d ks l p e H k Q := ⟨as, h1, r, H', h2, fun _ => h3, h4⟩
theorem WO_value (h1 : isHv o = false) (h2 : ∀ K, opF P o e H K = match evF o e H with | some (q, v) => q ∧ K v H | none => False) : WO P L o pos chk d ks l p e H k Q ↔ WSr P L (evF o e H) (rdI o && l.any (fun x => x.1.chk.contains pos)) o pos d ks l p e H k Q := by
  unfold WO WSr
  rw [h2]
  cases evF o e H with
  | none => exact Iff.rfl
  | some x =>
    obtain ⟨q, v⟩ := x
    simp only [h1, Bool.false_eq_true, false_implies, true_and]
    exact Iff.rfl
theorem WO_heavy (h1 : isHv o = true) (h0 : rdI o = false) (h3 : ∀ H', cutI o H' = H') (h2 : ∀ K, opF P o e H K = match hvF o e H with | some (q, v, H') => q ∧ K v H' | none => False) : WO P L o pos chk d ks l p e H k Q ↔ WH P L (hvF o e H) chk d ks l p e k Q := by
  unfold WO WH
  rw [h2]
  cases hvF o e H with
  | none => exact Iff.rfl
  | some x =>
    obtain ⟨q, v, H'⟩ := x
    simp only [h1, h0, h3, true_implies, Bool.false_and, Bool.false_eq_true, if_false]
    exact Iff.rfl
theorem WO_heavyA {L0 : Nat} (h1 : isHv o = true) (h0 : rdI o = false) (h3 : ∀ H', cutI o H' = H'.take L0) (h2 : ∀ K, opF P o e H K = match hvF o e H with | some (q, v, H') => q ∧ K v H' | none => False) : WO P L o pos chk d ks l p e H k Q ↔ WHA P L L0 (hvF o e H) chk d ks l p e k Q := by
  unfold WO WHA
  rw [h2]
  cases hvF o e H with
  | none => exact Iff.rfl
  | some x =>
    obtain ⟨q, v, H'⟩ := x
    simp only [h1, h0, h3, true_implies, Bool.false_and, Bool.false_eq_true, if_false]
    exact Iff.rfl
end
theorem exK_up (hQ : Q.up) : ∀ k : List It, Post.up (exK P L k Q)
  | [] => hQ
  | .c c :: k => fun x e e' H h hq => by
    cases x with
    | normal => exact kWP_mono c h (exK_up hQ k) hq
    | exit i => exact exK_up hQ k _ _ _ _ h hq
    | ret => exact exK_up hQ k _ _ _ _ h hq
  | .blk id :: k => fun x e e' H h hq => by
    cases x with
    | normal => exact exK_up hQ k _ _ _ _ h hq
    | exit i =>
      simp only [exK] at hq ⊢
      split
      · rename_i hi; rw [if_pos hi] at hq; exact exK_up hQ k _ _ _ _ h hq
      · rename_i hi; rw [if_neg hi] at hq; exact exK_up hQ k _ _ _ _ h hq
    | ret => exact exK_up hQ k _ _ _ _ h hq
  | .lp n c :: k => fun x e e' H h hq => by
    cases x with
    | normal => exact loopN_mono (B' := kWP P L c) (fun _ _ _ _ _ h1 h2 h3 => kWP_mono c h1 h2 h3) n h (exK_up hQ k) hq
    | exit i => exact exK_up hQ k _ _ _ _ h hq
    | ret => exact exK_up hQ k _ _ _ _ h hq
  | .li R hR :: k => fun x e e' H h hq => by
    cases x with
    | normal => exact hR _ _ _ h hq
    | exit i => exact exK_up hQ k _ _ _ _ h hq
    | ret => exact exK_up hQ k _ _ _ _ h hq
def LI {X : Type} (L : Nat) (I : X → Env) (Hh : X → Heap) (μ : X → Nat) (x : X) (e : Env) (H : Heap) : Prop := ∃ y, μ y < μ x ∧ cut L e H (I y) (Hh y)
theorem LI_up {X : Type} (L : Nat) (I : X → Env) (Hh : X → Heap) (μ : X → Nat) (x : X) : ∀ e e' H, Env.sub e e' → LI L I Hh μ x e H → LI L I Hh μ x e' H :=
  fun _ _ _ h ⟨y, h1, h2⟩ => ⟨y, h1, cut_up h h2⟩
theorem W_loop {c : KCode} {X : Type} (I : X → Env) (Hh : X → Heap) (μ : X → Nat) (x0 : X) (hQ : Q.up) (h0 : cut L e H (I x0) (Hh x0))
    (step : ∀ x, W P L (.c c :: .li (LI L I Hh μ x) (LI_up L I Hh μ x) :: k) (I x) (Hh x) Q) : W P L (.c (.loop c) :: k) e H Q := by
  have key : ∀ n (x : X) (e : Env) (H1 : Heap), μ x < n → cut L e H1 (I x) (Hh x) → loopN L (kWP P L c) n e H1 (exK P L k Q) := by
    intro n
    induction n with
    | zero => intro x e H1 hx; omega
    | succ n ih =>
      intro x e H1 hx hc
      refine ⟨_, _, hc, kWP_mono c (Env.sub_refl _) ?_ (step x)⟩
      intro ex e1 e2 H1 h12 hq
      cases ex with
      | normal =>
        obtain ⟨y, h1, h2⟩ := hq
        exact ih y e2 H1 (by omega) (cut_up h12 h2)
      | exit i => exact exK_up hQ k _ _ _ _ h12 hq
      | ret => exact exK_up hQ k _ _ _ _ h12 hq
  exact ⟨_, key _ x0 e H (Nat.lt_succ_self _) h0⟩
theorem cut_ren {e0 : Env} {H0 : Heap} (σ : List Nat) (h1 : σ.Nodup) (h2 : σ.take L = List.range L) (h3 : hasR σ e0 e) (h4 : leR σ H σ H0) : cut L e H e0 H0 := cut_of (.inr ⟨σ, h1, h2, h3, h4⟩)
theorem W_cut {c : KCode} {e0 : Env} {H0 : Heap} (hc : cut L e H e0 H0) (h : W P L (.c c :: k) e0 H0 Q) : W P L (.c (.cut c) :: k) e H Q := ⟨e0, H0, hc, h⟩
theorem FSpec.of_W {f : FuncId} {fl : List (Nat × Nat)} {od : List (Nat × List Nat)} {c : KCode} {rs : List IRes} {n : Nat} {args : List AV} {r : AV} {H' : Heap} (hl : lowFunc P f fl od = some ⟨c.bare, rs, n⟩) (hn : args.length ≤ n)
    (h : W P H.length [.c c] (initEnv 0 args) H (retPost rs (fin H.length r H'))) : FSpec P f args H r H' := by
  refine FSpec.of_k hl hn (kWP_mono c (Env.sub_refl _) ?_ h)
  exact retPost_le
end
end Go.Fw
namespace Go.Fw
section
variable {P : Program} {L : Nat} {k : List It} {e : Env} {H : Heap} {Q : Post} {d : Option Nat} {ks chk : List Nat} {l : List (DOper × List Nat)} {p : Pend} {pos : Nat}
theorem ev_K (o : IOp) (h : isHv o = false) (h1 : ∀ f a, o ≠ .call f a) (h2 : ∀ f a, o ≠ .callv f a) (h3 : ∀ f a, o ≠ .callP f a) (K : AV → Heap → Prop) : opF P o e H K = match evF o e H with | some (q, v) => q ∧ K v H | none => False := by
  unfold opF
  split
  · exact absurd rfl (h1 _ _)
  · exact absurd rfl (h2 _ _)
  · exact absurd rfl (h3 _ _)
  · rw [if_neg (by simp [h])] <;> (cases evF o e H <;> rfl)
theorem hv_K (o : IOp) (h : isHv o = true) (h1 : ∀ f a, o ≠ .call f a) (h2 : ∀ f a, o ≠ .callv f a) (h3 : ∀ f a, o ≠ .callP f a) (K : AV → Heap → Prop) : opF P o e H K = match hvF o e H with | some (q, v, H') => q ∧ K v H' | none => False := by
  unfold opF
  split
  · exact absurd rfl (h1 _ _)
  · exact absurd rfl (h2 _ _)
  · exact absurd rfl (h3 _ _)
  · rw [if_pos h] <;> (cases hvF o e H <;> rfl)
theorem WO_light (o : IOp) (h : isHv o = false) (hr : rdI o = false) (h1 : ∀ f a, o ≠ .call f a) (h2 : ∀ f a, o ≠ .callv f a) (h3 : ∀ f a, o ≠ .callP f a := by intro _ _; simp) : WO P L o pos chk d ks l p e H k Q ↔ WS P L (evF o e H) d ks l p e H k Q := by
  rw [WO_value h (ev_K o h h1 h2 h3), hr, Bool.false_and, WSr_no]
theorem WO_rd (o : IOp) (h : isHv o = false) (hr : rdI o = true) (h1 : ∀ f a, o ≠ .call f a) (h2 : ∀ f a, o ≠ .callv f a) (h3 : ∀ f a, o ≠ .callP f a := by intro _ _; simp) : WO P L o pos chk d ks l p e H k Q ↔ WSr P L (evF o e H) (l.any (fun x => x.1.chk.contains pos)) o pos d ks l p e H k Q := by
  rw [WO_value h (ev_K o h h1 h2 h3), hr, Bool.true_and]
theorem WO_mv (x : Opd) : WO P L (.mv x) pos chk d ks l p e H k Q ↔ WS P L (okO (e.opd x)) d ks l p e H k Q := WO_light _ rfl rfl (fun _ _ => by simp) (fun _ _ => by simp)
theorem WO_pick (c a b : Opd) : WO P L (.pick c a b) pos chk d ks l p e H k Q ↔ WS P L (pickO (e.opd c) (e.opd a) (e.opd b)) d ks l p e H k Q := WO_light _ rfl rfl (fun _ _ => by simp) (fun _ _ => by simp)
theorem WO_bin (i : Bool) (op : BinOp) (x y : Opd) : WO P L (.bin i op x y) pos chk d ks l p e H k Q ↔ WS P L (bind2 (e.opd x) (e.opd y) (binF i op)) d ks l p e H k Q := WO_light _ rfl rfl (fun _ _ => by simp) (fun _ _ => by simp)
theorem WO_isNil (neg : Bool) (q : Nat) (x : Opd) : WO P L (.isNil neg q x) pos chk d ks l p e H k Q ↔ WS P L (bind1 (e.opd x) (nilF neg q)) d ks l p e H k Q := WO_light _ rfl rfl (fun _ _ => by simp) (fun _ _ => by simp)
theorem WO_eqA (neg : Bool) (ks' : List IntKind) (x y : Opd) : WO P L (.eqA neg ks' x y) pos chk d ks l p e H k Q ↔ WS P L (bind2 (e.opd x) (e.opd y) (eqAF neg ks')) d ks l p e H k Q := WO_light _ rfl rfl (fun _ _ => by simp) (fun _ _ => by simp)
theorem WO_un (op : UnOp) (x : Opd) : WO P L (.un op x) pos chk d ks l p e H k Q ↔ WS P L (bind1 (e.opd x) (unF op)) d ks l p e H k Q := WO_light _ rfl rfl (fun _ _ => by simp) (fun _ _ => by simp)
theorem WO_convI (q : IntKind) (x : Opd) : WO P L (.convI q x) pos chk d ks l p e H k Q ↔ WS P L (bind1 (e.opd x) (convF q)) d ks l p e H k Q := WO_light _ rfl rfl (fun _ _ => by simp) (fun _ _ => by simp)
theorem WO_ofStr (T : Nat) (x : Opd) : WO P L (.ofStr T x) pos chk d ks l p e H k Q ↔ WS P L (bind1 (e.opd x) ofStrF) d ks l p e H k Q := WO_light _ rfl rfl (fun _ _ => by simp) (fun _ _ => by simp)
theorem WO_build (z : List AV) (ps : List (Nat × Nat × Opd)) : WO P L (.build z ps) pos chk d ks l p e H k Q ↔ WS P L (aggF (e.parts ps) z .agg) d ks l p e H k Q := WO_light _ rfl rfl (fun _ _ => by simp) (fun _ _ => by simp)
theorem WO_buildF (T n : Nat) (z : List AV) (ps : List (Nat × Nat × Opd)) : WO P L (.buildF T n z ps) pos chk d ks l p e H k Q ↔ WS P L (aggF (e.parts ps) z (.list n ⟨false, true, false⟩)) d ks l p e H k Q := WO_light _ rfl rfl (fun _ _ => by simp) (fun _ _ => by simp)
theorem WO_nilCheck (x : Opd) : WO P L (.nilCheck x) pos chk d ks l p e H k Q ↔ WS P L (bind1 (e.opd x) nchkF) d ks l p e H k Q := WO_light _ rfl rfl (fun _ _ => by simp) (fun _ _ => by simp)
theorem WO_fieldAddr (o : Nat) (x : Opd) : WO P L (.fieldAddr o x) pos chk d ks l p e H k Q ↔ WS P L (bind1 (e.opd x) (faF o)) d ks l p e H k Q := WO_light _ rfl rfl (fun _ _ => by simp) (fun _ _ => by simp)
theorem WO_field (o : Nat) (n : Option Nat) (x : Opd) : WO P L (.field o n x) pos chk d ks l p e H k Q ↔ WS P L (bind1 (e.opd x) fun v => fldF o v n) d ks l p e H k Q := WO_light _ rfl rfl (fun _ _ => by simp) (fun _ _ => by simp)
theorem WO_idxA (len s : Nat) (x i : Opd) : WO P L (.idxA len s x i) pos chk d ks l p e H k Q ↔ WS P L (bind2 (e.opd x) (e.opd i) (idxAF len s)) d ks l p e H k Q := WO_light _ rfl rfl (fun _ _ => by simp) (fun _ _ => by simp)
theorem WO_idxS (s : Nat) (x i : Opd) : WO P L (.idxS s x i) pos chk d ks l p e H k Q ↔ WS P L (bind2 (e.opd x) (e.opd i) (idxSF s)) d ks l p e H k Q := WO_light _ rfl rfl (fun _ _ => by simp) (fun _ _ => by simp)
theorem WO_ixA (len s : Nat) (m : Option Nat) (x i : Opd) : WO P L (.ixA len s m x i) pos chk d ks l p e H k Q ↔ WS P L (bind2 (e.opd x) (e.opd i) (ixAF len s m)) d ks l p e H k Q := WO_light _ rfl rfl (fun _ _ => by simp) (fun _ _ => by simp)
theorem WO_slS (s : Nat) (x : Opd) (lo hi mx : Option Opd) : WO P L (.slS s x lo hi mx) pos chk d ks l p e H k Q ↔ WS P L (bindS (e.opd x) (e.opdO lo) (e.opdO hi) (e.opdO mx) (slSF s)) d ks l p e H k Q := WO_light _ rfl rfl (fun _ _ => by simp) (fun _ _ => by simp)
theorem WO_len (b : Bool) (x : Opd) : WO P L (.len b x) pos chk d ks l p e H k Q ↔ WS P L (bind1 (e.opd x) (lenF b)) d ks l p e H k Q := WO_light _ rfl rfl (fun _ _ => by simp) (fun _ _ => by simp)
theorem WO_lenK (n : Nat) : WO P L (.lenK n) pos chk d ks l p e H k Q ↔ WS P L (ok1 (.int .i64 n)) d ks l p e H k Q := WO_light _ rfl rfl (fun _ _ => by simp) (fun _ _ => by simp)
theorem WO_extract (i : Nat) (x : Opd) : WO P L (.extract i x) pos chk d ks l p e H k Q ↔ WS P L (bind1 (e.opd x) (extF i)) d ks l p e H k Q := WO_light _ rfl rfl (fun _ _ => by simp) (fun _ _ => by simp)
theorem WO_s2a (n s : Nat) (x : Opd) : WO P L (.s2a n s x) pos chk d ks l p e H k Q ↔ WS P L (bind1 (e.opd x) (s2aF n s)) d ks l p e H k Q := WO_light _ rfl rfl (fun _ _ => by simp) (fun _ _ => by simp)
theorem WO_iface (t : Nat) (x : Opd) : WO P L (.iface t x) pos chk d ks l p e H k Q ↔ WS P L (bind1 (e.opd x) fun v => ok1 (.iface t v)) d ks l p e H k Q := WO_light _ rfl rfl (fun _ _ => by simp) (fun _ _ => by simp)
theorem WO_look (ok : Bool) (z : AV) (x i : Opd) : WO P L (.look ok z x i) pos chk d ks l p e H k Q ↔ WS P L (bind2 (e.opd x) (e.opd i) (lookF ok z)) d ks l p e H k Q := WO_light _ rfl rfl (fun _ _ => by simp) (fun _ _ => by simp)
theorem lookF_map (ok : Bool) (z : AV) (k k' : IntKind) (kvs : List (Int × CV)) (n : Int) : lookF ok z (.map k kvs) (.int k' n) = some (k' = k, lookV ok z kvs n) := rfl
theorem WO_min (x y : Opd) : WO P L (.min x y) pos chk d ks l p e H k Q ↔ WS P L (bind2 (e.opd x) (e.opd y) (mmF false)) d ks l p e H k Q := WO_light _ rfl rfl (fun _ _ => by simp) (fun _ _ => by simp)
theorem WO_max (x y : Opd) : WO P L (.max x y) pos chk d ks l p e H k Q ↔ WS P L (bind2 (e.opd x) (e.opd y) (mmF true)) d ks l p e H k Q := WO_light _ rfl rfl (fun _ _ => by simp) (fun _ _ => by simp)
theorem WO_toStr (x : Opd) : WO P L (.toStr x) pos chk d ks l p e H k Q ↔ WSr P L (bind1 (e.opd x) (toStrF H)) (l.any (fun x => x.1.chk.contains pos)) (.toStr x) pos d ks l p e H k Q := WO_rd _ rfl rfl (fun _ _ => by simp) (fun _ _ => by simp)
theorem WO_load (n : Option Nat) (x : Opd) : WO P L (.load n x) pos chk d ks l p e H k Q ↔ WSr P L (bind1 (e.opd x) fun v => loadF H v n) (l.any (fun x => x.1.chk.contains pos)) (.load n x) pos d ks l p e H k Q := WO_rd _ rfl rfl (fun _ _ => by simp) (fun _ _ => by simp)
theorem WO_slA (s n : Nat) (x : Opd) (lo hi mx : Option Opd) : WO P L (.slA s n x lo hi mx) pos chk d ks l p e H k Q ↔ WSr P L (bindS (e.opd x) (e.opdO lo) (e.opdO hi) (e.opdO mx) (slAF H s n)) (l.any (fun x => x.1.chk.contains pos)) (.slA s n x lo hi mx) pos d ks l p e H k Q := WO_rd _ rfl rfl (fun _ _ => by simp) (fun _ _ => by simp)
theorem WO_appF (T s by_ : Nat) (x y : Opd) : WO P L (.appF T s by_ x y) pos chk d ks l p e H k Q ↔ WSr P L (bind2 (e.opd x) (e.opd y) (appFF H s by_)) (l.any (fun x => x.1.chk.contains pos)) (.appF T s by_ x y) pos d ks l p e H k Q := WO_rd _ rfl rfl (fun _ _ => by simp) (fun _ _ => by simp)
theorem WO_alloc (T : Nat) (z : List AV) : WO P L (.alloc T z) pos chk d ks l p e H k Q ↔ WH P L (some (T < 1000000, .ptr H.length 0, H ++ [some ⟨z, T, true⟩])) chk d ks l p e k Q := WO_heavy rfl rfl (fun _ => rfl) (hv_K _ rfl (fun _ _ => by simp) (fun _ _ => by simp) (fun _ _ => by simp))
theorem WO_box (T : Nat) (x : Opd) : WO P L (.box T x) pos chk d ks l p e H k Q ↔ WH P L (bindH (e.opd x) fun v => boxF T v H) chk d ks l p e k Q := WO_heavy rfl rfl (fun _ => rfl) (hv_K _ rfl (fun _ _ => by simp) (fun _ _ => by simp) (fun _ _ => by simp))
theorem WO_buildO (T s : Nat) (z : List AV) (ps : List (Nat × Nat × Opd)) : WO P L (.buildO T s z ps) pos chk d ks l p e H k Q ↔ WH P L (buildOF T s (e.parts ps) z H) chk d ks l p e k Q := WO_heavy rfl rfl (fun _ => rfl) (hv_K _ rfl (fun _ _ => by simp) (fun _ _ => by simp) (fun _ _ => by simp))
theorem WO_store (n : Nat) (x v : Opd) : WO P L (.store n x v) pos chk d ks l p e H k Q ↔ WH P L (bindH2 (e.opd x) (e.opd v) fun p c => storeF n p c H) chk d ks l p e k Q := WO_heavy rfl rfl (fun _ => rfl) (hv_K _ rfl (fun _ _ => by simp) (fun _ _ => by simp) (fun _ _ => by simp))
theorem WO_appO (T s by_ : Nat) (x y : Opd) : WO P L (.appO T s by_ x y) pos chk d ks l p e H k Q ↔ WH P L (bindH2 (e.opd x) (e.opd y) fun v w => appOF T s by_ v w H) chk d ks l p e k Q := WO_heavy rfl rfl (fun _ => rfl) (hv_K _ rfl (fun _ _ => by simp) (fun _ _ => by simp) (fun _ _ => by simp))
theorem WO_copy (s : Nat) (x y : Opd) : WO P L (.copy s x y) pos chk d ks l p e H k Q ↔ WH P L (bindH2 (e.opd x) (e.opd y) fun v w => copyF s v w H) chk d ks l p e k Q := WO_heavy rfl rfl (fun _ => rfl) (hv_K _ rfl (fun _ _ => by simp) (fun _ _ => by simp) (fun _ _ => by simp))
theorem WO_makeS (T s by_ : Nat) (z : List AV) (l' c : Opd) : WO P L (.makeS T s by_ z l' c) pos chk d ks l p e H k Q ↔ WH P L (bindH2 (e.opd l') (e.opd c) fun l c => mkSF T s by_ z l c H) chk d ks l p e k Q := WO_heavy rfl rfl (fun _ => rfl) (hv_K _ rfl (fun _ _ => by simp) (fun _ _ => by simp) (fun _ _ => by simp))
theorem WO_cvt (x : Opd) : WO P L (.cvt x) pos chk d ks l p e H k Q ↔ WH P L (bindH (e.opd x) fun v => cvtF v H) chk d ks l p e k Q := WO_heavy rfl rfl (fun _ => rfl) (hv_K _ rfl (fun _ _ => by simp) (fun _ _ => by simp) (fun _ _ => by simp))
theorem cvtF_slice (s id off len c : Nat) (H : Heap) : cvtF (.slice s id off len (some c)) H = match H.blk id with | some b => some (s = 1 ∧ 0 < len ∧ off + len ≤ b.cells.length, .list 1 ⟨false, decide (c = len), false⟩ ((b.cells.drop off).take len), H.set id none) | none => none := rfl
theorem WO_allocA (B q T : Nat) (z : List AV) : WO P L (.allocA B q T z) pos chk d ks l p e H k Q ↔ WHA P L B (alAF B q T z H) chk d ks l p e k Q := WO_heavyA rfl rfl (fun _ => rfl) (hv_K _ rfl (fun _ _ => by simp) (fun _ _ => by simp) (fun _ _ => by simp))
theorem WO_makeA (B q T s by_ : Nat) (z : List AV) (l' c : Opd) : WO P L (.makeA B q T s by_ z l' c) pos chk d ks l p e H k Q ↔ WHA P L B (bindH2 (e.opd l') (e.opd c) fun l c => mkAF B q T s by_ z l c H) chk d ks l p e k Q := WO_heavyA rfl rfl (fun _ => rfl) (hv_K _ rfl (fun _ _ => by simp) (fun _ _ => by simp) (fun _ _ => by simp))
theorem WO_func (f : Fn) (a c : List Opd) : WO P L (.func f a c) pos chk d ks l p e H k Q ↔ WS P L (match e.opds a, e.opds c with
    | some xs, some ys => ok1 (.func f xs ys)
    | _, _ => none) d ks l p e H k Q := WO_light _ rfl rfl (fun _ _ => by simp) (fun _ _ => by simp)
def chkE (r : R1) (v : AV) : Prop := ∃ q, q ∧ r = some (q, v)
theorem chkF_cons (cs : List Nat) (n : Nat) (o : IOp) (e : Env) (v : AV) (l : Pend) (H : Heap) : chkF cs ((n, o, e, v) :: l) H ↔ (cs.contains n = true → chkE (evF o e H) v) ∧ chkF cs l H := Iff.rfl
theorem chkF_nil (cs : List Nat) (H : Heap) : chkF cs [] H ↔ True := Iff.rfl
theorem chkE_some (q : Prop) (u v : AV) : chkE (some (q, u)) v ↔ q ∧ u = v := by
  constructor
  · rintro ⟨q', h, h2⟩; cases h2; exact ⟨h, rfl⟩
  · rintro ⟨h, rfl⟩; exact ⟨q, h, rfl⟩
theorem chkE_ok1 (u v : AV) : chkE (ok1 u) v ↔ u = v := by simp [ok1, chkE_some]
theorem WC_true {t : Nat} {a b : KCode} : WC P L (some (.bool true)) t a b e H k Q ↔ W P L (.c a :: k) (e.set t (.bool true)) H Q := by simp [WC_bool]
theorem WC_false {t : Nat} {a b : KCode} : WC P L (some (.bool false)) t a b e H k Q ↔ W P L (.c b :: k) (e.set t (.bool false)) H Q := by simp [WC_bool]
theorem WC_dec {t : Nat} {a b : KCode} {q : Prop} {_ : Decidable q} (h1 : q → W P L (.c a :: k) (e.set t (.bool true)) H Q) (h2 : ¬ q → W P L (.c b :: k) (e.set t (.bool false)) H Q) : WC P L (some (.bool (decide q))) t a b e H k Q :=
  ⟨fun h => h1 (of_decide_eq_true h), fun h => h2 (of_decide_eq_false h)⟩
theorem WC_b {t : Nat} {a b : KCode} {c : Bool} (h1 : c = true → W P L (.c a :: k) (e.set t (.bool true)) H Q) (h2 : c = false → W P L (.c b :: k) (e.set t (.bool false)) H Q) : WC P L (some (.bool c)) t a b e H k Q := ⟨h1, h2⟩
theorem WG_tt {g : Nat} {o : IOp} : WG P L (some (.bool true)) g true o pos chk d ks l p e H k Q ↔ WO P L o pos chk d ks l p (e.set g (.bool true)) H k Q := by simp [WG_bool]
theorem WG_ff {g : Nat} {o : IOp} : WG P L (some (.bool false)) g false o pos chk d ks l p e H k Q ↔ WO P L o pos chk d ks l p (e.set g (.bool false)) H k Q := by simp [WG_bool]
theorem WG_tf {g : Nat} {o : IOp} : WG P L (some (.bool true)) g false o pos chk d ks l p e H k Q ↔ WR P L l p (((e.set g (.bool true)).setO d (.tuple [])).dels ks) H k Q := by simp [WG_bool]
theorem WG_ft {g : Nat} {o : IOp} : WG P L (some (.bool false)) g true o pos chk d ks l p e H k Q ↔ WR P L l p (((e.set g (.bool false)).setO d (.tuple [])).dels ks) H k Q := by simp [WG_bool]
theorem WG_decF {g : Nat} {o : IOp} {q : Prop} {_ : Decidable q} (h1 : q → WR P L l p (((e.set g (.bool true)).setO d (.tuple [])).dels ks) H k Q) (h2 : ¬ q → WO P L o pos chk d ks l p (e.set g (.bool false)) H k Q) : WG P L (some (.bool (decide q))) g false o pos chk d ks l p e H k Q :=
  ⟨fun h => h2 (of_decide_eq_false h), fun h => h1 (of_decide_eq_true h)⟩
theorem WG_decT {g : Nat} {o : IOp} {q : Prop} {_ : Decidable q} (h1 : q → WO P L o pos chk d ks l p (e.set g (.bool true)) H k Q) (h2 : ¬ q → WR P L l p (((e.set g (.bool false)).setO d (.tuple [])).dels ks) H k Q) : WG P L (some (.bool (decide q))) g true o pos chk d ks l p e H k Q :=
  ⟨fun h => h1 (of_decide_eq_true h), fun h => h2 (of_decide_eq_false h)⟩
theorem WC_ndec {t : Nat} {a b : KCode} {q : Prop} {_ : Decidable q} (h1 : ¬ q → W P L (.c a :: k) (e.set t (.bool true)) H Q) (h2 : q → W P L (.c b :: k) (e.set t (.bool false)) H Q) : WC P L (some (.bool (!decide q))) t a b e H k Q :=
  ⟨fun h => h1 (by simpa using h), fun h => h2 (by simpa using h)⟩
theorem WG_ndecF {g : Nat} {o : IOp} {q : Prop} {_ : Decidable q} (h1 : ¬ q → WR P L l p (((e.set g (.bool true)).setO d (.tuple [])).dels ks) H k Q) (h2 : q → WO P L o pos chk d ks l p (e.set g (.bool false)) H k Q) : WG P L (some (.bool (!decide q))) g false o pos chk d ks l p e H k Q :=
  ⟨fun h => h2 (by simpa using h), fun h => h1 (by simpa using h)⟩
theorem bind1_v (v : AV) (f : AV → R1) : bind1 (some v) f = f v := rfl
theorem bind2_v (v w : AV) (f : AV → AV → R1) : bind2 (some v) (some w) f = f v w := rfl
theorem bindH_v (v : AV) (f : AV → R2) : bindH (some v) f = f v := rfl
theorem bindH2_v (v w : AV) (f : AV → AV → R2) : bindH2 (some v) (some w) f = f v w := rfl
theorem bindS_v (v : AV) (a b c : Option AV) (f : AV → Option AV → Option AV → Option AV → R1) : bindS (some v) (some a) (some b) (some c) f = f v a b c := rfl
theorem okO_v (v : AV) : okO (some v) = ok1 v := rfl
theorem pickO_t (a b : Option AV) : pickO (some (.bool true)) a b = okO a := rfl
theorem pickO_f (a b : Option AV) : pickO (some (.bool false)) a b = okO b := rfl
def atF (xs : List AV) (i : Nat) : R1 := match xs[i]? with
  | some c => ok1 c
  | none => none
theorem atF_zero (x : AV) (xs : List AV) : atF (x :: xs) 0 = ok1 x := rfl
theorem atF_succ (x : AV) (xs : List AV) (i : Nat) : atF (x :: xs) (i + 1) = atF xs i := rfl
theorem atF_drop (xs : List AV) (n i : Nat) : atF (xs.drop n) i = atF xs (n + i) := by simp [atF, List.getElem?_drop]
theorem WS_at_bytes (bs : List UInt8) (i : Nat) : WS P L (atF (bs.map bv) i) d ks l p e H k Q ↔ i < bs.length ∧ WR P L l p ((e.setO d (.int .u8 (bs.getD i 0).toNat)).dels ks) H k Q := by
  by_cases h : i < bs.length
  · simp [atF, h, WS, bv, ok1]
  · simp [atF, h, WS]
theorem chkE_at (xs : List AV) (i : Nat) (v : AV) : chkE (atF xs i) v ↔ xs[i]? = some v := by
  cases h : xs[i]? with
  | none => simp [atF, h, chkE]
  | some c => rw [show atF xs i = ok1 c by simp [atF, h], chkE_ok1]; simp
theorem WSr_at_bytes (bs : List UInt8) (i : Nat) (o : IOp) : WSr P L (atF (bs.map bv) i) true o pos d ks l p e H k Q ↔ i < bs.length ∧ WR P L l ((pos, o, e, (.int .u8 (bs.getD i 0).toNat)) :: p) ((e.setO d (.int .u8 (bs.getD i 0).toNat)).dels ks) H k Q := by
  by_cases h : i < bs.length
  · simp [atF, h, WSr, bv, ok1]
  · simp [atF, h, WSr]
theorem loadF_ptr {id off : Nat} {b : Blk} (h : H.blk id = some b) : loadF H (.ptr id off) none = atF b.cells off := by simp [loadF, h, atF] <;> rfl
theorem loadF_ptrN {id off n : Nat} {b : Blk} (h : H.blk id = some b) : loadF H (.ptr id off) (some n) = some (off + n ≤ b.cells.length, .agg ((b.cells.drop off).take n)) := by simp [loadF, h]
def atB (b : Option Blk) (off : Nat) : R1 := match b with
  | some b => atF b.cells off
  | none => none
def atBN (b : Option Blk) (off n : Nat) : R1 := match b with
  | some b => some (off + n ≤ b.cells.length, .agg ((b.cells.drop off).take n))
  | none => none
theorem loadF_p (id off : Nat) : loadF H (.ptr id off) none = atB (H.blk id) off := by
  cases h : H.blk id with
  | none => simp [loadF, h, atB]
  | some b => rw [loadF_ptr h]; rfl
theorem loadF_pN (id off n : Nat) : loadF H (.ptr id off) (some n) = atBN (H.blk id) off n := by
  cases h : H.blk id with
  | none => simp [loadF, h, atBN]
  | some b => rw [loadF_ptrN h]; rfl
theorem atB_some (b : Blk) (off : Nat) : atB (some b) off = atF b.cells off := rfl
theorem atBN_some (b : Blk) (off n : Nat) : atBN (some b) off n = some (off + n ≤ b.cells.length, .agg ((b.cells.drop off).take n)) := rfl
theorem loadF_rptr (bw : Bool) (xs : List AV) : loadF H (.rptr bw xs) none = atF xs 0 := rfl
theorem loadF_rptrN (bw : Bool) (xs : List AV) (n : Nat) : loadF H (.rptr bw xs) (some n) = some (n ≤ xs.length, .agg (xs.take n)) := rfl
theorem fldF_one (o : Nat) (xs : List AV) : fldF o (.agg xs) none = atF xs o := rfl
theorem fldF_many (o n : Nat) (xs : List AV) : fldF o (.agg xs) (some n) = some (o + n ≤ xs.length, .agg ((xs.drop o).take n)) := rfl
theorem blk_cons_zero (b : Option Blk) (H : Heap) : Heap.blk (b :: H) 0 = b := by cases b <;> rfl
theorem blk_cons_succ (b : Option Blk) (H : Heap) (n : Nat) : Heap.blk (b :: H) (n + 1) = Heap.blk H n := rfl
theorem cleanL_bv (a : List UInt8) : cleanL (a.map bv) = true := by
  induction a with
  | nil => rfl
  | cons x a ih => simp [cleanL, bv, AV.clean]; exact ih
theorem cleanL_append (a b : List AV) : cleanL (a ++ b) = (cleanL a && cleanL b) := by
  induction a with
  | nil => simp [cleanL]
  | cons x a ih => simp [cleanL, ih, Bool.and_assoc]
theorem toBytes_bv (a : List UInt8) : toBytes (a.map bv) = some a := by
  induction a with
  | nil => rfl
  | cons x a ih =>
    have h1 := x.toNat_lt
    simp only [List.map_cons, bv, toBytes]
    rw [show (List.map bv a) = a.map bv from rfl] at *
    simp only [ih]
    rw [if_pos (by omega)]
    simp
theorem ltL_bv (n : Nat) (a : List UInt8) : ltL n (a.map bv) = true := by
  induction a with
  | nil => rfl
  | cons x a ih => simp [ltL, bv, AV.ltI]; exact ih
theorem ltL_append (n : Nat) (a b : List AV) : ltL n (a ++ b) = (ltL n a && ltL n b) := by
  induction a with
  | nil => simp [ltL]
  | cons x a ih => simp [ltL, ih, Bool.and_assoc]
theorem wrap64 {n : Int} (h1 : -9223372036854775808 ≤ n) (h2 : n < 9223372036854775808) : IntKind.i64.wrap n = n := by
  unfold IntKind.wrap; simp [IntKind.signed, IntKind.bits] at *; omega
theorem wrap8 {n : Int} (h1 : 0 ≤ n) (h2 : n < 256) : IntKind.u8.wrap n = n := by
  unfold IntKind.wrap; simp [IntKind.signed, IntKind.bits] at *; omega
theorem wrap64_u8 (b : UInt8) : IntKind.i64.wrap (b.toNat : Int) = b.toNat := by
  have := b.toNat_lt
  exact wrap64 (by omega) (by omega)
theorem okc_bool (b : Bool) : AV.okc (.bool b) = true := rfl
theorem cells_bool (b : Bool) : AV.cells (.bool b) = [.bool b] := rfl
theorem notStr_bool (b : Bool) : notStr (.bool b) = true := rfl
theorem okc_int (k : IntKind) (n : Int) : AV.okc (.int k n) = true := rfl
theorem cells_int (k : IntKind) (n : Int) : AV.cells (.int k n) = [.int k n] := rfl
theorem notStr_int (k : IntKind) (n : Int) : notStr (.int k n) = true := rfl
theorem okc_str (l : List UInt8) : AV.okc (.str l) = true := rfl
theorem cells_str (l : List UInt8) : AV.cells (.str l) = [.str l] := rfl
theorem notStr_str (l : List UInt8) : notStr (.str l) = false := rfl
theorem okc_nil  : AV.okc (.nil ) = true := rfl
theorem cells_nil  : AV.cells (.nil ) = [.nil ] := rfl
theorem notStr_nil  : notStr (.nil ) = true := rfl
theorem okc_ptr (id off : Nat) : AV.okc (.ptr id off) = true := rfl
theorem cells_ptr (id off : Nat) : AV.cells (.ptr id off) = [.ptr id off] := rfl
theorem notStr_ptr (id off : Nat) : notStr (.ptr id off) = true := rfl
theorem okc_rptr (bw : Bool) (xs : List AV) : AV.okc (.rptr bw xs) = true := rfl
theorem cells_rptr (bw : Bool) (xs : List AV) : AV.cells (.rptr bw xs) = [.rptr bw xs] := rfl
theorem notStr_rptr (bw : Bool) (xs : List AV) : notStr (.rptr bw xs) = true := rfl
theorem okc_slice (e id off len : Nat) (cap : Option Nat) : AV.okc (.slice e id off len cap) = true := rfl
theorem cells_slice (e id off len : Nat) (cap : Option Nat) : AV.cells (.slice e id off len cap) = [.slice e id off len cap] := rfl
theorem notStr_slice (e id off len : Nat) (cap : Option Nat) : notStr (.slice e id off len cap) = true := rfl
theorem okc_list (e : Nat) (m : Md) (xs : List AV) : AV.okc (.list e m xs) = true := rfl
theorem cells_list (e : Nat) (m : Md) (xs : List AV) : AV.cells (.list e m xs) = [.list e m xs] := rfl
theorem notStr_list (e : Nat) (m : Md) (xs : List AV) : notStr (.list e m xs) = true := rfl
theorem okc_func (f : Fn) (a c : List AV) : AV.okc (.func f a c) = true := rfl
theorem cells_func (f : Fn) (a c : List AV) : AV.cells (.func f a c) = [.func f a c] := rfl
theorem notStr_func (f : Fn) (a c : List AV) : notStr (.func f a c) = true := rfl
theorem okc_nilFunc  : AV.okc (.nilFunc ) = true := rfl
theorem cells_nilFunc  : AV.cells (.nilFunc ) = [.nilFunc ] := rfl
theorem notStr_nilFunc  : notStr (.nilFunc ) = true := rfl
theorem okc_iface (t : TypeId) (v : AV) : AV.okc (.iface t v) = true := rfl
theorem cells_iface (t : TypeId) (v : AV) : AV.cells (.iface t v) = [.iface t v] := rfl
theorem notStr_iface (t : TypeId) (v : AV) : notStr (.iface t v) = true := rfl
theorem okc_nilIface  : AV.okc (.nilIface ) = true := rfl
theorem cells_nilIface  : AV.cells (.nilIface ) = [.nilIface ] := rfl
theorem notStr_nilIface  : notStr (.nilIface ) = true := rfl
theorem okc_agg (xs : List AV) : AV.okc (.agg xs) = true := rfl
theorem cells_agg (xs : List AV) : AV.cells (.agg xs) = xs := rfl
theorem notStr_agg (xs : List AV) : notStr (.agg xs) = true := rfl
theorem okc_tuple (xs : List AV) : AV.okc (.tuple xs) = false := rfl
theorem cells_tuple (xs : List AV) : AV.cells (.tuple xs) = [.tuple xs] := rfl
theorem notStr_tuple (xs : List AV) : notStr (.tuple xs) = true := rfl
theorem lenF_slice (b : Bool) (e id off len : Nat) (cap : Option Nat) : lenF b (.slice e id off len cap) = some (b = true, .int .i64 len) := rfl
theorem lenF_list (b : Bool) (e : Nat) (m : Md) (xs : List AV) : lenF b (.list e m xs) = some (b = true, .int .i64 (xs.length / e : Nat)) := rfl
theorem lenF_str (b : Bool) (l : List UInt8) : lenF b (.str l) = some (b = false, .int .i64 l.length) := rfl
theorem faF_ptr (o id off : Nat) : faF o (.ptr id off) = ok1 (.ptr id (off + o)) := rfl
theorem faF_rptr (o : Nat) (b : Bool) (xs : List AV) : faF o (.rptr b xs) = some (o ≤ xs.length, .rptr b (xs.drop o)) := rfl
theorem idxSF_slice (s s' id off len : Nat) (cap : Option Nat) (k : IntKind) (n : Int) : idxSF s (.slice s' id off len cap) (.int k n) = some (s' = s ∧ (0 ≤ n ∧ n < len), .ptr id (off + n.toNat * s)) := rfl
theorem idxSF_list (s s' : Nat) (m : Md) (xs : List AV) (k : IntKind) (n : Int) : idxSF s (.list s' m xs) (.int k n) = some (s' = s ∧ (0 ≤ n ∧ n.toNat * s < xs.length), .rptr m.bw (xs.drop (n.toNat * s))) := rfl
theorem idxAF_ptr (len s id off : Nat) (k : IntKind) (n : Int) : idxAF len s (.ptr id off) (.int k n) = some (0 ≤ n ∧ n < len, .ptr id (off + n.toNat * s)) := rfl
theorem idxAF_rptr (len s : Nat) (b : Bool) (xs : List AV) (k : IntKind) (n : Int) : idxAF len s (.rptr b xs) (.int k n) = some ((0 ≤ n ∧ n < len) ∧ n.toNat * s ≤ xs.length, .rptr b (xs.drop (n.toNat * s))) := rfl
theorem ixAF_many (len s m : Nat) (xs : List AV) (k : IntKind) (n : Int) : ixAF len s (some m) (.agg xs) (.int k n) = some ((0 ≤ n ∧ n < len) ∧ n.toNat * s + m ≤ xs.length, .agg ((xs.drop (n.toNat * s)).take m)) := rfl
theorem ixAF_one (len s : Nat) (xs : List AV) (k : IntKind) (n : Int) : ixAF len s none (.agg xs) (.int k n) = match xs[n.toNat * s]? with | some c => some (0 ≤ n ∧ n < len, c) | none => none := rfl
theorem convF_int (q k : IntKind) (n : Int) : convF q (.int k n) = ok1 (.int q (q.wrap n)) := rfl
theorem unF_neg (k : IntKind) (n : Int) : unF .neg (.int k n) = ok1 (.int k (k.wrap (0 - n))) := rfl
theorem unF_xor (k : IntKind) (n : Int) : unF .xor (.int k n) = ok1 (.int k (bitI .xor k (if k.signed then -1 else k.max) n)) := rfl
theorem unF_not (b : Bool) : unF .not (.bool b) = ok1 (.bool (!b)) := rfl
theorem nilF_0nil (g : Bool) : nilF g 0 .nil = ok1 (.bool (!g)) := rfl
theorem nilF_0ptr (g : Bool) (i o : Nat) : nilF g 0 (.ptr i o) = ok1 (.bool g) := rfl
theorem nilF_0rptr (g b : Bool) (xs : List AV) : nilF g 0 (.rptr b xs) = ok1 (.bool g) := rfl
theorem nilF_1 (g : Bool) (e : Nat) (m : Md) (xs : List AV) : nilF g 1 (.list e m xs) = some (m.nl = true ∨ xs ≠ [], .bool (m.nl != g)) := rfl
theorem nilF_2nil (g : Bool) : nilF g 2 .nilFunc = ok1 (.bool (!g)) := rfl
theorem nilF_2f (g : Bool) (f : Fn) (a c : List AV) : nilF g 2 (.func f a c) = ok1 (.bool g) := rfl
theorem nilF_3nil (g : Bool) : nilF g 3 .nilIface = ok1 (.bool (!g)) := rfl
theorem nilF_3f (g : Bool) (t : Nat) (v : AV) : nilF g 3 (.iface t v) = ok1 (.bool g) := rfl
theorem binF_int (op : BinOp) (k k' : IntKind) (a b : Int) : binF false op (.int k a) (.int k' b) = intF op k a k' b := rfl
theorem binF_beq (a b : Bool) : binF true .eql (.bool a) (.bool b) = ok1 (.bool (decide (a = b))) := rfl
theorem binF_bne (a b : Bool) : binF true .neq (.bool a) (.bool b) = ok1 (.bool (decide (¬ a = b))) := rfl
theorem binF_sadd (a b : List UInt8) : binF false .add (.str a) (.str b) = some (a.length + b.length < 9223372036854775808, .str (a ++ b)) := rfl
theorem binF_seq (a b : List UInt8) : binF false .eql (.str a) (.str b) = ok1 (.bool (decide (a = b))) := rfl
theorem binF_sne (a b : List UInt8) : binF false .neq (.str a) (.str b) = ok1 (.bool (decide (¬ a = b))) := rfl
theorem sliceCells_list (H : Heap) (e : Nat) (m : Md) (xs : List AV) : sliceCells H (.list e m xs) = some xs := rfl
theorem sliceCells_str (H : Heap) (l : List UInt8) : sliceCells H (.str l) = some (l.map bv) := rfl
def cutC (b : Option Blk) (off n : Nat) : Option (List AV) := match b with
  | some b => if off + n ≤ b.cells.length then some ((b.cells.drop off).take n) else none
  | none => none
theorem sliceCells_slice (H : Heap) (e id off len : Nat) (cap : Option Nat) : sliceCells H (.slice e id off len cap) = cutC (H.blk id) off (len * e) := rfl
theorem cutC_some (b : Blk) (off n : Nat) : cutC (some b) off n = if off + n ≤ b.cells.length then some ((b.cells.drop off).take n) else none := rfl
theorem szAV_list (e s : Nat) (m : Md) (xs : List AV) : szAV (.list e m xs) s = (m.nl || decide (e = s)) := rfl
theorem szAV_str (s : Nat) (l : List UInt8) : szAV (.str l) s = decide (s = 1) := rfl
theorem szAV_slice (e id off len s : Nat) (cap : Option Nat) : szAV (.slice e id off len cap) s = decide (e = s) := rfl
theorem oneSl_list (e : Nat) (m : Md) (xs : List AV) : oneSl (.list e m xs) = decide (e = 1) := rfl
theorem oneSl_slice (e id off len : Nat) (cap : Option Nat) : oneSl (.slice e id off len cap) = decide (e = 1) := rfl
theorem slSF_sliceS (e e' id off len c : Nat) (lo hi mx : Option AV) : slSF e (.slice e' id off len (some c)) lo hi mx = match bndF len c lo hi mx with | some (p, l, h, m) => some (e' = e ∧ p, .slice e id (off + l * e) (h - l) (some (m - l))) | none => none := rfl
theorem slSF_sliceN (e e' id off len : Nat) (lo hi : Option AV) : slSF e (.slice e' id off len none) lo hi none = match bndF len len lo hi none with | some (p, l, h, _) => some (e' = e ∧ p, .slice e id (off + l * e) (h - l) none) | none => none := rfl
theorem slSF_list (e e' : Nat) (m : Md) (xs : List AV) (lo hi mx : Option AV) : slSF e (.list e' m xs) lo hi mx = match bndF (xs.length / e) (xs.length / e) lo hi mx with | some (p, l, h, c) => some ((m.nl = true ∨ e' = e) ∧ p, .list e ⟨m.nl, (match mx with | some _ => decide (c = h) | none => m.full && decide (h = xs.length / e)), m.bw⟩ ((xs.drop (l * e)).take ((h - l) * e))) | none => none := rfl
theorem slAF_rptr (H : Heap) (s n : Nat) (bw : Bool) (xs : List AV) (lo hi mx : Option AV) : slAF H s n (.rptr bw xs) lo hi mx = match bndF n n lo hi mx with | some (p, a, b, c) => some (n * s ≤ xs.length ∧ p, .list s ⟨false, decide (c = b), bw⟩ ((xs.drop (a * s)).take ((b - a) * s))) | none => none := rfl
theorem slAF_ptr (H : Heap) (s n id off : Nat) (lo hi mx : Option AV) : slAF H s n (.ptr id off) lo hi mx = match bndF n n lo hi mx with | some (p, a, b, c) => (match H.blk id with | some bl => some (off + n * s ≤ bl.cells.length ∧ p, .slice s id (off + a * s) (b - a) (some (c - a))) | none => none) | none => none := rfl
theorem appFF_list (H : Heap) (s by_ s' : Nat) (m : Md) (xs : List AV) (w : AV) : appFF H s by_ (.list s' m xs) w = match sliceCells H w with | some ys => some (szAV w s = true ∧ (m.nl = true ∨ s' = s) ∧ (m.nl = true ∨ m.full = true) ∧ ((xs.length + ys.length) / s * by_ ≤ 140737488355328 ∧ (xs.length + ys.length) / s ≤ 9223372036854775807), .list s ⟨m.nl && ys.isEmpty, false, m.bw⟩ (xs ++ ys)) | none => none := rfl
theorem appOF_list (T s by_ s' : Nat) (m : Md) (xs : List AV) (w : AV) (H : Heap) : appOF T s by_ (.list s' m xs) w H = match sliceCells H w with | some ys => some (szAV w s = true ∧ cleanL ys = true ∧ T < 1000000 ∧ (m.nl = true ∨ s' = s) ∧ (m.nl = true ∨ m.full = true) ∧ (xs = [] ∨ ys ≠ []) ∧ cleanL xs = true ∧ ((xs.length + ys.length) / s * by_ ≤ 140737488355328 ∧ (xs.length + ys.length) / s ≤ 9223372036854775807), .slice s H.length 0 ((xs.length + ys.length) / s) none, H ++ [some ⟨xs ++ ys, T, false⟩]) | none => none := rfl
theorem appOF_sliceN (T s by_ s' id off len : Nat) (w : AV) (H : Heap) : appOF T s by_ (.slice s' id off len none) w H = match sliceCells H w with | some ys => (match H.blk id with | some b => some (szAV w s = true ∧ cleanL ys = true ∧ T < 1000000 ∧ s' = s ∧ b.elem = T ∧ off + len * s ≤ b.cells.length ∧ ((len + ys.length / s) * by_ ≤ 140737488355328 ∧ len + ys.length / s ≤ 9223372036854775807), .slice s H.length 0 (len + ys.length / s) none, H.set id none ++ [some ⟨(b.cells.drop off).take (len * s) ++ ys, T, false⟩]) | none => none) | none => none := rfl
theorem appOF_sliceS (T s by_ s' id off len c : Nat) (w : AV) (H : Heap) : appOF T s by_ (.slice s' id off len (some c)) w H = match sliceCells H w with | some ys => (match H.blk id with | some b => if len + ys.length / s ≤ c then some (szAV w s = true ∧ cleanL ys = true ∧ T < 1000000 ∧ s' = s ∧ off + c * s ≤ b.cells.length ∧ len ≤ c ∧ ((len + ys.length / s) * by_ ≤ 140737488355328 ∧ len + ys.length / s ≤ 9223372036854775807), .slice s id off (len + ys.length / s) (some c), H.set id (some ⟨splice b.cells (off + len * s) ys, b.elem, b.exact⟩)) else some (szAV w s = true ∧ cleanL ys = true ∧ T < 1000000 ∧ s' = s ∧ off + c * s ≤ b.cells.length ∧ len ≤ c ∧ ((len + ys.length / s) * by_ ≤ 140737488355328 ∧ len + ys.length / s ≤ 9223372036854775807), .slice s H.length 0 (len + ys.length / s) none, H ++ [some ⟨(b.cells.drop off).take (len * s) ++ ys, T, false⟩]) | none => none) | none => none := rfl
theorem storeF_ptr (n id off : Nat) (c : AV) (H : Heap) : storeF n (.ptr id off) c H = match H.blk id with | some b => some (c.okc = true ∧ c.cells.length = n ∧ off + n ≤ b.cells.length ∧ cleanL c.cells = true, .tuple [], H.set id (some ⟨splice b.cells off c.cells, b.elem, b.exact⟩)) | none => none := rfl
theorem copyF_slice (s s' id off len : Nat) (cap : Option Nat) (w : AV) (H : Heap) : copyF s (.slice s' id off len cap) w H = match sliceCells H w with | some ys => (match H.blk id with | some b => some (szAV w s = true ∧ cleanL ys = true ∧ notStr w = true ∧ s' = s ∧ off + len * s ≤ b.cells.length, .int .i64 (Min.min (ys.length / s) len : Nat), H.set id (some ⟨splice b.cells off (ys.take (Min.min (ys.length / s) len * s)), b.elem, b.exact⟩)) | none => none) | none => none := rfl
theorem extF_tuple (i : Nat) (vs : List AV) : extF i (.tuple vs) = atF vs i := rfl
theorem s2aF_slice (n s s' id off len : Nat) (cap : Option Nat) : s2aF n s (.slice s' id off len cap) = some (s' = s ∧ 0 < n ∧ n ≤ len, .ptr id off) := rfl
theorem s2aF_list (n s s' : Nat) (m : Md) (xs : List AV) : s2aF n s (.list s' m xs) = some (s' = s ∧ 0 < n ∧ n * s ≤ xs.length, .rptr m.bw xs) := rfl
theorem nchkF_ptr (i o : Nat) : nchkF (.ptr i o) = ok1 (.ptr i o) := rfl
theorem nchkF_rptr (b : Bool) (xs : List AV) : nchkF (.rptr b xs) = ok1 (.rptr b xs) := rfl
theorem nchkF_f (f : FuncId) (a c : List AV) : nchkF (.func (.func f) a c) = ok1 (.func (.func f) a c) := rfl
theorem mmF_int (mx : Bool) (k k' : IntKind) (a b : Int) : mmF mx (.int k a) (.int k' b) = some (k = k', .int k (if mx then Max.max a b else Min.min a b)) := rfl
theorem ofStrF_str (l : List UInt8) : ofStrF (.str l) = ok1 (.list 1 ⟨false, false, false⟩ (l.map bv)) := rfl
theorem mkSF_int (T s by_ : Nat) (z : List AV) (k k' : IntKind) (l c : Int) (H : Heap) : mkSF T s by_ z (.int k l) (.int k' c) H = some (k = k' ∧ (0 ≤ l ∧ l ≤ c ∧ c * by_ ≤ 140737488355328 ∧ c ≤ 9223372036854775807) ∧ T < 1000000, .slice s H.length 0 l.toNat (some c.toNat), H ++ [some ⟨(List.replicate c.toNat z).flatten, T, true⟩]) := rfl
theorem eqAF_agg (g : Bool) (ks : List IntKind) (xs ys : List AV) : eqAF g ks (.agg xs) (.agg ys) = some (hasK ks xs = true ∧ hasK ks ys = true, .bool (if g then decide (¬ ints xs = ints ys) else decide (ints xs = ints ys))) := rfl
end
end Go.Fw
namespace Go.Fw
section
variable {P : Program} {ro bo fr ro' bo' : Mem} {Φ Φ' : Emb} {H H' : Heap} {w w' : World} {s : Nat → Nat → Nat → Nat → Option Nat → AV} {p : Nat → Nat → AV} {q : Nat → Bool}
def frzS (bw : Bool) (id : Nat) (b : Blk) (e i off len : Nat) (kc : Option Nat) : AV :=
  if i = id ∧ off + len * e ≤ b.cells.length then .list e ⟨false, decide (kc = some len), bw⟩ ((b.cells.drop off).take (len * e)) else .slice e i off len kc
def frzP (bw : Bool) (id : Nat) (b : Blk) (i off : Nat) : AV := if i = id ∧ off ≤ b.cells.length then .rptr bw (b.cells.drop off) else .ptr i off
def AV.frz (bw : Bool) (id : Nat) (b : Blk) (v : AV) : AV := v.sub (frzS bw id b) (frzP bw id b)
def frzL (bw : Bool) (id : Nat) (b : Blk) (l : List AV) : List AV := subL (frzS bw id b) (frzP bw id b) l
theorem VR.empty {e : Nat} {m : Md} {a : Option Addr} (he : 0 < e) (hm : m.nl = false := by rfl) : VR ro bo Φ (.list e m []) (.slice a 0 0) := by
  cases a with
  | none => exact .listNil _ _ he
  | some a =>
    obtain ⟨r, off, sp⟩ := a
    exact .list e m [] r off 0 0 #[] 0 (0, 0) he hm (by simp) (Nat.le_refl _) (fun _ => rfl) (fun h => absurd rfl h) (fun h => absurd rfl h) (fun j v u h => by simp at h) (fun j u h => by simp at h) sp (fun h => absurd rfl h)
theorem VR.frz0 {bw : Bool} {id : Nat} {b : Blk} (hΦ : Φ id = none) {v : AV} {u : Value} (hv : VR ro bo Φ v u) : VR ro bo Φ (v.frz bw id b) u := by
  refine VR.subst (q := fun _ => true) ?_ ?_ (Mem.le_refl _) (Mem.le_refl _) hv (AV.ids_true v)
  · intro e i off len kc u _ hv
    unfold frzS
    split
    · rename_i hcnd
      obtain ⟨rfl, h1⟩ := hcnd
      cases hv with
      | slice _ _ _ _ cap o' _ r2 o2 s2 h he g1 g2 g3 g4 => rw [hΦ] at h; cases h
      | sliceE _ _ _ a he =>
        rw [Nat.zero_mul, List.take_zero]
        exact VR.empty he
    · exact hv
  · intro i off u _ hv
    unfold frzP
    split
    · rename_i hcnd
      obtain ⟨rfl, h1⟩ := hcnd
      cases hv with
      | ptr _ _ r2 o2 s2 h => rw [hΦ] at h; cases h
    · exact hv
theorem VR.frz {bw : Bool} {id : Nat} {b : Blk} {r o sz : Nat} {c : Array Value} (hΦ : Φ id = some (r, o, sz)) (hm : sel ro' bo' bw r (.cells c b.elem)) (hsz : o + sz = c.size) (hlen : b.cells.length ≤ sz)
    (hc : ∀ (j : Nat) (v : AV) (u : Value), b.cells[j]? = some v → c[o + j]? = some u → VR ro' bo' Φ v u) (ho : ∀ (j : Nat) (u : Value), c[j]? = some u → u.oneCell' = true)
    (hr : Mem.le ro ro') (hb : Mem.le bo bo') {v : AV} {u : Value} (hv : VR ro bo Φ v u) : VR ro' bo' Φ (v.frz bw id b) u := by
  refine VR.subst (q := fun _ => true) ?_ ?_ hr hb hv (AV.ids_true v)
  · intro e i off len kc u _ hv
    unfold frzS
    split
    · rename_i hcnd
      obtain ⟨rfl, h1⟩ := hcnd
      cases hv with
      | slice _ _ _ _ cap o' _ r2 o2 s2 h he g1 g2 g3 g4 =>
        rw [hΦ] at h; cases h
        have hl : ((b.cells.drop off).take (len * e)).length = len * e := by rw [List.length_take, List.length_drop]; omega
        have hcap : len ≠ 0 → o' = o + off := fun hn => g4 (by omega)
        refine .list e _ _ r o' len cap c b.elem _ he rfl hl g1 (fun hf => ?_) (fun _ => hm) (fun hne => ?_) (fun j v u hj hu => ?_) (fun j u hj hu => ho _ u hu) none (fun _ => rfl)
        · exact g3 len (by simpa using hf)
        · have hln : len * e ≠ 0 := fun q => hne (List.length_eq_zero_iff.1 (by rw [hl]; exact q))
          have : len ≠ 0 := fun q => hln (by rw [q]; simp)
          rw [hcap this, hl]; omega
        · have hjl : j < len * e := by have := (List.getElem?_eq_some_iff.1 hj).1; rw [hl] at this; exact this
          have : len ≠ 0 := fun q => by subst q; simp at hjl
          rw [hcap this] at hu
          rw [List.getElem?_take, if_pos hjl, List.getElem?_drop] at hj
          exact hc (off + j) v u hj (by rw [← Nat.add_assoc]; exact hu)
      | sliceE _ _ _ a he =>
        rw [Nat.zero_mul, List.take_zero]
        exact VR.empty he
    · exact hv.mono hr hb (Emb.le_refl _)
  · intro i off u _ hv
    unfold frzP
    split
    · rename_i hcnd
      obtain ⟨rfl, h1⟩ := hcnd
      cases hv with
      | ptr _ _ r2 o2 s2 h =>
        rw [hΦ] at h; cases h
        refine .rptr bw _ r (o + off) c b.elem _ hm (by rw [List.length_drop]; omega) (fun j v u hj hu => ?_) (fun j u hj hu => ho _ u hu)
        rw [List.getElem?_drop] at hj
        exact hc (off + j) v u hj (by rw [← Nat.add_assoc]; exact hu)
    · exact hv.mono hr hb (Emb.le_refl _)
def Blk.frz (id : Nat) (b c : Blk) : Blk := ⟨frzL false id b c.cells, c.elem, c.exact⟩
def Heap.frz (id : Nat) (b : Blk) (H : Heap) : Heap := (H.set id none).map (Option.map (Blk.frz id b))
theorem Heap.frz_get {id : Nat} {b : Blk} {H : Heap} {i : Nat} {x : Blk} (h : (Heap.frz id b H)[i]? = some (some x)) : i ≠ id ∧ ∃ y, H[i]? = some (some y) ∧ x = Blk.frz id b y := by
  unfold Heap.frz at h
  rw [List.getElem?_map] at h
  have hne : i ≠ id := by
    rintro rfl
    by_cases hl : i < H.length
    · rw [List.getElem?_set_self hl] at h; simp at h
    · rw [List.getElem?_eq_none (by simp; omega)] at h; simp at h
  rw [List.getElem?_set_ne (Ne.symm hne)] at h
  cases hi : H[i]? with
  | none => rw [hi] at h; simp at h
  | some z =>
    rw [hi] at h
    cases z with
    | none => simp at h
    | some y => simp at h; exact ⟨hne, y, rfl, h.symm⟩
theorem frz_sound {id : Nat} {b : Blk} (hH : Holds ro fr Φ H w) (hid : H[id]? = some (some b)) : ∃ ro2, Mem.le ro ro2 ∧ (∀ {bo : Mem} {v : AV} {u : Value}, VR ro bo Φ v u → VR ro2 bo Φ (v.frz false id b) u) ∧ Holds ro2 fr Φ (Heap.frz id b H) w := by
  have dm : ∀ i p, Φ i = some p → i < (Heap.frz id b H).length := fun i p hp => by
    have := hH.dom i p hp
    simpa [Heap.frz] using this
  rcases hH.own id b hid with ⟨k1, k2, k3⟩ | ⟨r1, o, sz, hΦ, ⟨⟨c, hc1, hc2, hc3, hc4⟩, hl, hx, hreal⟩⟩
  · refine ⟨ro, Mem.le_refl _, fun h => VR.frz0 k3 h, ⟨hH.hro, hH.hfr, fun i x hi => ?_, fun i j x y r p q hi hj => ?_, fun i x r p hi hp => ?_, dm, hH.disj⟩⟩
    · obtain ⟨hne, y, hy, rfl⟩ := Heap.frz_get hi
      rcases hH.own i y hy with ⟨k1, k2, k3⟩ | ⟨r2, o2, s2, k1, ⟨⟨c2, m1, m2, m3, m4⟩, m5, m6, m7⟩⟩
      · exact .inl ⟨by simp [Blk.frz, frzL, k1, subL], k2, k3⟩
      · refine .inr ⟨r2, o2, s2, k1, ⟨⟨c2, m1, m2, fun j v u hv hu => ?_, m4⟩, by simp only [Blk.frz, frzL, subL_length]; exact m5, fun q => by simp only [Blk.frz, frzL, subL_length]; exact m6 q, m7⟩⟩
        obtain ⟨z, n1, rfl⟩ := subL_get _ _ _ hv
        exact VR.frz0 k3 (m3 j z u n1 hu)
    · obtain ⟨_, x', hx', _⟩ := Heap.frz_get hi
      obtain ⟨_, y', hy', _⟩ := Heap.frz_get hj
      exact hH.inj i j x' y' r p q hx' hy'
    · obtain ⟨hne, x', hx', _⟩ := Heap.frz_get hi
      exact hH.sep i x' r p hx' hp
  have hsep := hH.sep id b r1 _ hid hΦ
  let ro2 : Mem := fun i => if i = r1 then some (.cells c b.elem) else ro i
  have hle : Mem.le ro ro2 := fun i o ho => by
    show (if i = r1 then _ else _) = _
    rw [if_neg (fun q => by subst q; rw [hsep.1] at ho; cases ho)]
    exact ho
  have hm : ∀ {bo : Mem}, sel ro2 bo false r1 (.cells c b.elem) := .inl (by show (if r1 = r1 then _ else _) = _; rw [if_pos rfl])
  have fz : ∀ {bo : Mem} {v : AV} {u : Value}, VR ro bo Φ v u → VR ro2 bo Φ (v.frz false id b) u := fun {bo v u} hv =>
    VR.frz hΦ hm hc2 hl (fun j v u hj hu => (hc3 j v u hj hu).mono hle (fun _ _ q => by cases q) (Emb.le_refl _)) hc4 hle (Mem.le_refl _) hv
  refine ⟨ro2, hle, fz, ⟨fun i o ho => ?_, hH.hfr, fun i x hi => ?_, fun i j x y r p q hi hj => ?_, fun i x r p hi hp => ?_, dm, fun i o ho => ?_⟩⟩
  · change (if i = r1 then _ else _) = _ at ho
    split at ho
    · rename_i q; subst q; cases ho; exact hc1
    · exact hH.hro i o ho
  · obtain ⟨hne, y, hy, rfl⟩ := Heap.frz_get hi
    rcases hH.own i y hy with ⟨k1, k2, k3⟩ | ⟨r2, o2, s2, k1, ⟨⟨c2, m1, m2, m3, m4⟩, m5, m6, m7⟩⟩
    · exact .inl ⟨by simp [Blk.frz, frzL, k1, subL], k2, k3⟩
    · refine .inr ⟨r2, o2, s2, k1, ⟨⟨c2, m1, m2, fun j v u hv hu => ?_, m4⟩, by simp only [Blk.frz, frzL, subL_length]; exact m5, fun q => by simp only [Blk.frz, frzL, subL_length]; exact m6 q, m7⟩⟩
      obtain ⟨z, n1, rfl⟩ := subL_get _ _ _ hv
      exact fz (m3 j z u n1 hu)
  · obtain ⟨_, x', hx', _⟩ := Heap.frz_get hi
    obtain ⟨_, y', hy', _⟩ := Heap.frz_get hj
    exact hH.inj i j x' y' r p q hx' hy'
  · obtain ⟨hne, x', hx', _⟩ := Heap.frz_get hi
    have := hH.sep i x' r p hx' hp
    refine ⟨?_, this.2⟩
    show (if r = r1 then _ else _) = _
    rw [if_neg]
    · exact this.1
    · rintro rfl
      exact hne (hH.inj i id x' b r p _ hx' hid hp hΦ)
  · change (if i = r1 then _ else _) = _ at ho
    split at ho
    · rename_i q; subst q; exact hsep.2
    · exact hH.disj i o ho
def frzE (bw : Bool) (id : Nat) (b : Blk) : Env → Env
  | [] => []
  | (t, v) :: l => (t, v.frz bw id b) :: frzE bw id b l
theorem frzE_get {bw : Bool} {id : Nat} {b : Blk} : ∀ {e : Env} {t : Nat} {v : AV}, (frzE bw id b e).get t = some v → ∃ x, e.get t = some x ∧ v = x.frz bw id b
  | [], t, v, h => by simp [frzE, Env.get] at h
  | (s, u) :: l, t, v, h => by
    simp only [frzE, Env.get] at h ⊢
    split at h
    · rename_i q; subst q; cases h; exact ⟨u, by simp, rfl⟩
    · rename_i q; rw [if_neg q]; exact frzE_get h
theorem cut_frz {L : Nat} {e : Env} (id : Nat) {b : Blk} (hid : H[id]? = some (some b)) : cut L e H (frzE false id b e) (Heap.frz id b H) := fun n ro bo fr Φ0 Φ a w hb h0 hS hH => by
  obtain ⟨ro2, k1, k2, k3⟩ := frz_sound hH hid
  refine ⟨ro2, Φ, ⟨hS.size, hS.defers, fun t v ht => ?_⟩, k3, k1, fun i p hi => (h0 i p hi).2⟩
  obtain ⟨x, h1, rfl⟩ := frzE_get ht
  obtain ⟨u, g1, g2⟩ := hS.env t x h1
  exact ⟨u, g1, k2 g2⟩
mutual
def AV.wkr : AV → AV → Prop
  | .list e m xs, w => match w with
    | .list e' m' ys => (e = e' ∨ (xs = [] ∧ 0 < e')) ∧ (m'.nl = true → m.nl = true) ∧ (m'.full = true → m.full = true) ∧ (m.bw = true → m'.bw = true) ∧ wkrL xs ys
    | _ => False
  | .agg xs, w => match w with
    | .agg ys => wkrL xs ys
    | _ => False
  | .tuple xs, w => match w with
    | .tuple ys => wkrL xs ys
    | _ => False
  | .iface t v, w => match w with
    | .iface t' v' => t = t' ∧ AV.wkr v v'
    | _ => False
  | .rptr b xs, w => match w with
    | .rptr b' ys => (b = true → b' = true) ∧ wkrL xs ys
    | _ => False
  | .bool b, w => w = .bool b
  | .int k n, w => w = .int k n
  | .str l, w => w = .str l
  | .nil, w => w = .nil
  | .ptr i o, w => w = .ptr i o
  | .slice e i o l c, w => w = .slice e i o l c ∨ w = .slice e i o l none
  | .func f a c, w => w = .func f a c
  | .nilFunc, w => w = .nilFunc
  | .nilIface, w => w = .nilIface
  | .map k l, w => w = .map k l
def wkrL : List AV → List AV → Prop
  | [], l => l = []
  | x :: xs, l => match l with
    | y :: ys => AV.wkr x y ∧ wkrL xs ys
    | [] => False
end
mutual
theorem AV.wkr_refl : ∀ v : AV, AV.wkr v v
  | .list e m xs => ⟨.inl rfl, fun h => h, fun h => h, fun h => h, wkrL_refl xs⟩
  | .agg xs => wkrL_refl xs
  | .tuple xs => wkrL_refl xs
  | .iface t v => ⟨rfl, AV.wkr_refl v⟩
  | .rptr b xs => ⟨fun h => h, wkrL_refl xs⟩
  | .bool _ => rfl
  | .int _ _ => rfl
  | .str _ => rfl
  | .nil => rfl
  | .ptr _ _ => rfl
  | .slice .. => .inl rfl
  | .func _ _ _ => rfl
  | .nilFunc => rfl
  | .nilIface => rfl
  | .map _ _ => rfl
theorem wkrL_refl : ∀ xs : List AV, wkrL xs xs
  | [] => rfl
  | x :: l => ⟨AV.wkr_refl x, wkrL_refl l⟩
end
theorem wkrL_len : ∀ {xs ys : List AV}, wkrL xs ys → xs.length = ys.length
  | [], l, h => by have : l = [] := h; rw [this]
  | x :: xs, [], h => h.elim
  | x :: xs, y :: ys, h => by simp [wkrL_len h.2]
theorem wkrL_get : ∀ {xs ys : List AV}, wkrL xs ys → ∀ (j : Nat) (y : AV), ys[j]? = some y → ∃ x, xs[j]? = some x ∧ AV.wkr x y
  | [], l, h, j, y, hy => by have : l = [] := h; rw [this] at hy; simp at hy
  | x :: xs, [], h, _, _, _ => h.elim
  | x :: xs, y :: ys, h, 0, z, hz => by simp at hz; subst hz; exact ⟨x, by simp, h.1⟩
  | x :: xs, y :: ys, h, j + 1, z, hz => by obtain ⟨v, h1, h2⟩ := wkrL_get h.2 j z (by simpa using hz); exact ⟨v, by simpa using h1, h2⟩
theorem sel_bw {bw bw' : Bool} {r : Nat} {o : Obj} (h : bw = true → bw' = true) (hs : sel ro bo bw r o) : sel ro bo bw' r o := hs.imp (fun x => x) fun x => ⟨h x.1, x.2⟩
theorem VR.weak {v : AV} {u : Value} (hv : VR ro bo Φ v u) : ∀ {v' : AV}, v.wkr v' → VR ro bo Φ v' u := by
  induction hv with
  | bool b => intro v' h; cases h; exact .bool b
  | int k n => intro v' h; cases h; exact .int k n
  | str l s h => intro v' hw; cases hw; exact .str l s h
  | nil => intro v' h; cases h; exact .nil
  | ptr id off r o s h => intro v' hw; cases hw; exact .ptr id off r o s h
  | rptr bw xs r off c T fz hr hl hx ho ih =>
    intro v' hw
    cases v' with
    | rptr b' ys =>
      have hn := wkrL_len hw.2
      refine .rptr b' ys r off c T fz (sel_bw hw.1 hr) (by rw [← hn]; exact hl) (fun j v u hv hu => ?_) (fun j u hj hu => ho j u (by rw [hn]; exact hj) hu)
      obtain ⟨x, h1, h2⟩ := wkrL_get hw.2 j v hv
      exact ih j x u h1 hu h2
    | _ => exact hw.elim
  | slice e id off len cap o' kc r o s h he h1 h2 h3 h4 =>
      intro v' hw
      rcases hw with rfl | rfl
      · exact .slice e id off len cap o' kc r o s h he h1 h2 h3 h4
      · exact .slice e id off len cap o' none r o s h he h1 h2 (fun _ q => by cases q) h4
  | sliceE e id off a he => intro v' hw; rcases hw with rfl | rfl <;> exact .sliceE e id off a he
  | listNil e m he =>
    intro v' hw
    cases v' with
    | list e' m' ys =>
      obtain ⟨h1, h2, h3, h4, h5⟩ := hw
      have : ys = [] := h5
      subst this
      exact .listNil _ _ (by rcases h1 with rfl | h1; exact he; exact h1.2)
    | _ => exact hw.elim
  | list e m xs r off len cap c T fz he hm hlen h1 hf hr hl hx ho sp hsp ih =>
    intro v' hw
    cases v' with
    | list e' m' ys =>
      obtain ⟨k1, k2, k3, k4, k5⟩ := hw
      have hn := wkrL_len k5
      have hne : ys ≠ [] → xs ≠ [] := fun h q => h (by rw [q] at hn; exact List.length_eq_zero_iff.1 hn.symm)
      have hnl : m'.nl = false := by cases hq : m'.nl; rfl; rw [k2 hq] at hm; cases hm
      have he' : 0 < e' ∧ ys.length = len * e' := by
        rcases k1 with rfl | ⟨rfl, k⟩
        · exact ⟨he, by rw [← hn]; exact hlen⟩
        · have hl0 : len = 0 := by
            rcases Nat.eq_zero_or_pos len with h | h
            · exact h
            · have := Nat.mul_pos h he; simp at hlen; omega
          exact ⟨k, by rw [← hn, hl0]; simp⟩
      refine .list e' m' ys r off len cap c T fz he'.1 hnl he'.2 h1 (fun q => hf (k3 q)) (fun q => sel_bw k4 (hr (hne q))) (fun q => by rw [← hn]; exact hl (hne q)) (fun j v u hv hu => ?_) (fun j u hj hu => ho j u (by rw [hn]; exact hj) hu) sp (fun q => hsp (hne q))
      obtain ⟨x, q1, q2⟩ := wkrL_get k5 j v hv
      exact ih j x u q1 hu q2
    | _ => exact hw.elim
  | func f xs ys us vs h1 h2 hx hy ih1 ih2 => intro v' hw; cases hw; exact .func f xs ys us vs h1 h2 hx hy
  | nilFunc => intro v' h; cases h; exact .nilFunc
  | iface t v u h ih =>
    intro v' hw
    cases v' with
    | iface t' v2 => obtain ⟨rfl, h2⟩ := hw; exact .iface t v2 u (ih h2)
    | _ => exact hw.elim
  | nilIface => intro v' h; cases h; exact .nilIface
  | map k kvs r es clock hr he => intro v' h; cases h; exact .map k kvs r es clock hr he
  | agg xs c h1 hx ho ih =>
    intro v' hw
    cases v' with
    | agg ys =>
      have hw : wkrL xs ys := hw
      refine .agg ys c (by rw [h1]; exact wkrL_len hw) (fun j v u hv hu => ?_) ho
      obtain ⟨x, q1, q2⟩ := wkrL_get hw j v hv
      exact ih j x u q1 hu q2
    | _ => exact hw.elim
  | tuple xs c h1 hx ih =>
    intro v' hw
    cases v' with
    | tuple ys =>
      have hw : wkrL xs ys := hw
      refine .tuple ys c (by rw [h1]; exact wkrL_len hw) (fun j v u hv hu => ?_)
      obtain ⟨x, q1, q2⟩ := wkrL_get hw j v hv
      exact ih j x u q1 hu q2
    | _ => exact hw.elim
def hasW : Env → Env → Prop
  | [], _ => True
  | (t, v) :: l, e => (∃ x, e.get t = some x ∧ AV.wkr x v) ∧ hasW l e
def leHW (n : Nat) : Heap → Heap → Prop
  | [], _ => True
  | none :: l, m => leHW n l m.tail ∧ m ≠ []
  | some b :: l, m => (∃ c, m.head? = some (some c) ∧ wkrL c.cells b.cells ∧ c.elem = b.elem ∧ (b.exact = true → c.exact = true) ∧ ltL n b.cells = true) ∧ leHW n l m.tail
theorem hasW_get : ∀ {e0 e : Env}, hasW e0 e → ∀ (t : Nat) (v : AV), e0.get t = some v → ∃ x, e.get t = some x ∧ AV.wkr x v
  | [], e, _, t, v, h => by simp [Env.get] at h
  | (s, u) :: l, e, h, t, v, ht => by
    simp only [Env.get] at ht
    split at ht
    · rename_i q; cases ht; subst q; exact h.1
    · exact hasW_get h.2 t v ht
theorem leHW_spec {n : Nat} : ∀ {a b : Heap}, leHW n a b → a.length ≤ b.length ∧ ∀ (i : Nat) (x : Blk), a[i]? = some (some x) → ∃ c, b[i]? = some (some c) ∧ wkrL c.cells x.cells ∧ c.elem = x.elem ∧ (x.exact = true → c.exact = true) ∧ ltL n x.cells = true
  | [], b, _ => ⟨by simp, fun i x h => by simp at h⟩
  | none :: l, [], h => absurd rfl h.2
  | none :: l, y :: m, h => by
    obtain ⟨h1, h2⟩ := leHW_spec (a := l) (b := m) h.1
    refine ⟨by simpa using h1, fun i x hx => ?_⟩
    cases i with
    | zero => simp at hx
    | succ i => simpa using h2 i x (by simpa using hx)
  | some b :: l, [], h => by obtain ⟨⟨c, hc, _⟩, _⟩ := h; simp at hc
  | some b :: l, y :: m, h => by
    obtain ⟨h1, h2⟩ := leHW_spec (a := l) (b := m) h.2
    refine ⟨by simpa using h1, fun i x hx => ?_⟩
    cases i with
    | zero =>
      obtain ⟨⟨c, hc, k⟩, _⟩ := h
      simp at hx hc; subst hx; subst hc
      exact ⟨c, by simp, k⟩
    | succ i => simpa using h2 i x (by simpa using hx)
theorem cut_w {L : Nat} {e e0 : Env} {H0 : Heap} (h : hasW e0 e ∧ Env.lt H0.length e0 = true ∧ L ≤ H0.length ∧ leHW H0.length H0 H) : cut L e H e0 H0 := fun n ro bo fr Φ0 Φ a w hb h0 hS hH => by
  obtain ⟨h1, h2, h3, h4⟩ := h
  obtain ⟨h5, h6⟩ := leHW_spec h4
  have hu : ∀ {i : Nat} {p : Nat × Nat × Nat}, (Φ.upto H0.length) i = some p → i < H0.length ∧ Φ i = some p := fun {i p} hi => by
    simp only [Emb.upto] at hi; split at hi; exact ⟨by assumption, hi⟩; cases hi
  refine ⟨ro, Φ.upto H0.length, ⟨hS.size, hS.defers, fun t v ht => ?_⟩, ⟨hH.hro, hH.hfr, fun i b hi => ?_, fun i j b c r p q hi hj hp hq => ?_, fun i b r p hi hp => ?_, fun i p hp => (hu hp).1, hH.disj⟩, Mem.le_refl _, fun i p hi => ?_⟩
  · obtain ⟨x, g1, g2⟩ := hasW_get h1 t v ht
    obtain ⟨u, k1, k2⟩ := hS.env t x g1
    exact ⟨u, k1, (k2.weak g2).upto (Env.lt_get h2 t v ht)⟩
  · have hlt : i < H0.length := (List.getElem?_eq_some_iff.1 hi).1
    have he : (Φ.upto H0.length) i = Φ i := by simp only [Emb.upto]; rw [if_pos hlt]
    obtain ⟨c, g1, g2, g3, g4, g5⟩ := h6 i b hi
    rw [he]
    rcases hH.own i c g1 with ⟨k1, k2, k3⟩ | ⟨r2, o2, s2, k1, ⟨⟨c2, m1, m2, m3, m4⟩, m5, m6, m7⟩⟩
    · exact .inl ⟨by have := wkrL_len g2; rw [k1] at this; exact List.length_eq_zero_iff.1 this.symm, (by cases hx : b.exact with
        | false => rfl
        | true => rw [g4 hx] at k2; cases k2), k3⟩
    · refine .inr ⟨r2, o2, s2, k1, ⟨⟨c2, by rw [← g3]; exact m1, m2, fun j v u hv hu => ?_, m4⟩, by rw [← wkrL_len g2]; exact m5, fun q => by rw [← wkrL_len g2]; exact m6 (g4 q), by rw [← g3]; exact m7⟩⟩
      obtain ⟨x, q1, q2⟩ := wkrL_get g2 j v hv
      exact ((m3 j x u q1 hu).weak q2).upto (ltL_mem g5 j v hv)
  · obtain ⟨b', g1, _⟩ := h6 i b hi
    obtain ⟨c', g2, _⟩ := h6 j c hj
    exact hH.inj i j b' c' r p q g1 g2 (hu hp).2 (hu hq).2
  · obtain ⟨b', g1, _⟩ := h6 i b hi
    exact hH.sep i b' r p g1 (hu hp).2
  · obtain ⟨g1, g2⟩ := h0 i p hi
    simp only [Emb.upto]
    rw [if_pos (by omega)]
    exact g2
theorem cut_ghost {L : Nat} {e : Env} (t s T : Nat) {e' : Nat} {m : Md} (hs : 0 < s) (hg : e.get t = some (.list e' m [])) (hm : m.full = true) :
    cut L e H (e.set t (.slice s H.length 0 0 none)) (H ++ [some ⟨[], T, false⟩]) := fun n ro bo fr Φ0 Φ a w hb h0 hS hH => by
  have hget : ∀ {i : Nat} {b : Blk}, (H ++ [some ⟨[], T, false⟩])[i]? = some (some b) → H[i]? = some (some b) ∨ (i = H.length ∧ b = ⟨[], T, false⟩) := fun {i b} hi => by
    by_cases hlt : i < H.length
    · rw [List.getElem?_append_left hlt] at hi; exact .inl hi
    · rw [List.getElem?_append_right (by omega)] at hi
      have : i - H.length = 0 := by
        rcases Nat.eq_zero_or_pos (i - H.length) with h | h
        · exact h
        · rw [List.getElem?_eq_none (by simp; omega)] at hi; cases hi
      rw [this] at hi; simp at hi
      exact .inr ⟨by omega, hi.symm⟩
  have hn : Φ H.length = none := by
    cases hq : Φ H.length with
    | none => rfl
    | some p => have := hH.dom _ _ hq; omega
  refine ⟨ro, Φ, ⟨hS.size, hS.defers, fun t' v ht => ?_⟩, ⟨hH.hro, hH.hfr, fun i b hi => ?_, fun i j b c r p q hi hj hp hq => ?_, fun i b r p hi hp => ?_, fun i p hp => by have := hH.dom i p hp; simp; omega, hH.disj⟩, Mem.le_refl _, fun i p hi => (h0 i p hi).2⟩
  · rw [Env.get_set] at ht
    split at ht
    · rename_i q; subst q; cases ht
      obtain ⟨u, g1, g2⟩ := hS.env _ _ hg
      refine ⟨u, g1, ?_⟩
      cases g2 with
      | listNil => exact .sliceE _ _ _ _ hs
      | list _ _ _ r off len cap c T fz he hm' hlen h1 hf =>
        have hl0 : len = 0 := by
          rcases Nat.eq_zero_or_pos len with h | h
          · exact h
          · have := Nat.mul_pos h he; simp at hlen; omega
        have := hf hm
        subst this; subst hl0
        exact .sliceE _ _ _ _ hs
    · exact hS.env t' v ht
  · rcases hget hi with hi | ⟨rfl, rfl⟩
    · exact hH.own i b hi
    · exact .inl ⟨rfl, rfl, hn⟩
  · rcases hget hi with hi | ⟨rfl, rfl⟩
    · rcases hget hj with hj | ⟨rfl, rfl⟩
      · exact hH.inj i j b c r p q hi hj hp hq
      · rw [hn] at hq; cases hq
    · rw [hn] at hp; cases hp
  · rcases hget hi with hi | ⟨rfl, rfl⟩
    · exact hH.sep i b r p hi hp
    · rw [hn] at hp; cases hp
end
end Go.Fw
namespace Go.Fw
section
variable {P : Program} {ro bo fr ro' bo' : Mem} {Φ Φ' : Emb} {H H' : Heap} {w w' : World}
theorem cleanL_at : ∀ {xs : List AV}, cleanL xs = true → ∀ (j : Nat) (x : AV), xs[j]? = some x → x.clean = true
  | [], _, j, x, h => by simp at h
  | y :: l, hc, 0, x, h => by simp [cleanL] at hc h; subst h; exact hc.1
  | y :: l, hc, j + 1, x, h => by simp [cleanL] at hc; exact cleanL_at hc.2 j x (by simpa using h)
theorem VR.unlend {v : AV} {u : Value} (hv : VR ro bo Φ v u) : v.clean = true → VR ro bo' Φ v u := by
  have sl : ∀ {bw : Bool} {r : Nat} {o : Obj}, sel ro bo bw r o → bw = false → sel ro bo' bw r o := fun h hb => by
    rcases h with h | h
    · exact .inl h
    · rw [hb] at h; cases h.1
  induction hv with
  | bool b => intro _; exact .bool b
  | int k n => intro _; exact .int k n
  | str l s h => intro _; exact .str l s h
  | nil => intro _; exact .nil
  | ptr id off r o s h => intro _; exact .ptr id off r o s h
  | rptr bw xs r off c T fz hm hl hx ho ih =>
    intro hc
    simp only [AV.clean, Bool.and_eq_true, Bool.not_eq_true'] at hc
    exact .rptr bw xs r off c T fz (sl hm hc.1) hl (fun j v u hv hu => ih j v u hv hu (cleanL_at hc.2 j v hv)) ho
  | slice e id off len cap o' kc r o s h he h1 h2 h3 h4 => intro _; exact .slice e id off len cap o' kc r o s h he h1 h2 h3 h4
  | sliceE e id off a he => intro _; exact .sliceE e id off a he
  | listNil e m he => intro _; exact .listNil e m he
  | list e m xs r off len cap c T fz he hm hlen h1 hf hmm hl hx ho sp hsp ih =>
    intro hc
    simp only [AV.clean, Bool.and_eq_true, Bool.not_eq_true'] at hc
    exact .list e m xs r off len cap c T fz he hm hlen h1 hf (fun k => sl (hmm k) hc.1) hl (fun j v u hv hu => ih j v u hv hu (cleanL_at hc.2 j v hv)) ho sp hsp
  | func f xs ys us vs h1 h2 hx hy ih1 ih2 =>
    intro hc
    simp only [AV.clean, Bool.and_eq_true] at hc
    exact .func f xs ys us vs h1 h2 (fun j v u hv hu => ih1 j v u hv hu (cleanL_at hc.1 j v hv)) (fun j v u hv hu => ih2 j v u hv hu (cleanL_at hc.2 j v hv))
  | nilFunc => intro _; exact .nilFunc
  | iface t v u h ih => intro hc; exact .iface t v u (ih (by simpa [AV.clean] using hc))
  | nilIface => intro _; exact .nilIface
  | map k kvs r es clock hr he => intro _; exact .map k kvs r es clock hr he
  | agg xs c h1 hx ho ih => intro hc; exact .agg xs c h1 (fun j v u hv hu => ih j v u hv hu (cleanL_at (by simpa [AV.clean] using hc) j v hv)) ho
  | tuple xs c h1 hx ih => intro hc; exact .tuple xs c h1 (fun j v u hv hu => ih j v u hv hu (cleanL_at (by simpa [AV.clean] using hc) j v hv))
theorem FSpec.lendR {f : FuncId} {as : List AV} {r : AV} {id : Nat} {b : Blk} (hid : H[id]? = some (some b)) (hcl : r.clean = true) (hH' : id < H'.length)
    (h : FSpec P f (frzL true id b as) (H.set id none) r H') (hat : ∃ r o s, Φ id = some (r, o, s) ∧ BlkAt ro Φ b w r o s) (vs : Array Value) (hvs : vs.size = as.length)
    (hV : ∀ (j : Nat) (v : AV) (u : Value), as[j]? = some v → vs[j]? = some u → VR ro bo Φ v u) (hH : Holds ro fr Φ H w) (hb : Mem.le bo fr) :
    CallsX P f vs w fun e w' => ∃ u ro' Φ', e = .returned u ∧ VR ro' bo Φ' r u ∧ Holds ro' fr Φ' (H'.set id (some b)) w' ∧ Mem.le ro ro' ∧ Emb.le Φ Φ' ∧ WExt w w' := by
  obtain ⟨r1, o, sz, hΦ, ⟨⟨c, hc1, hc2, hc3, hc4⟩, hl, hx, hreal⟩⟩ := hat
  have hsep := hH.sep id b r1 _ hid hΦ
  let bo2 : Mem := fun i => if i = r1 then some (.cells c b.elem) else bo i
  let fr2 : Mem := fun i => if i = r1 then some (.cells c b.elem) else fr i
  have hbo : Mem.le bo bo2 := fun i o ho => by
    show (if i = r1 then _ else _) = _
    rw [if_neg (fun q => by subst q; have := hb _ _ ho; rw [hsep.2] at this; cases this)]
    exact ho
  have hb2 : Mem.le bo2 fr2 := fun i o ho => by
    change (if i = r1 then _ else _) = _ at ho
    show (if i = r1 then _ else _) = _
    split at ho
    · rename_i q; rw [if_pos q]; exact ho
    · rename_i q; rw [if_neg q]; exact hb _ _ ho
  have hm : sel ro bo2 true r1 (.cells c b.elem) := .inr ⟨rfl, by show (if r1 = r1 then _ else _) = _; rw [if_pos rfl]⟩
  have hget : ∀ {i : Nat} {x : Blk}, (H.set id none)[i]? = some (some x) → i ≠ id ∧ H[i]? = some (some x) := fun {i x} hi => by
    have hne : i ≠ id := by
      rintro rfl
      by_cases hl : i < H.length
      · rw [List.getElem?_set_self hl] at hi; simp at hi
      · rw [List.getElem?_eq_none (by simp; omega)] at hi; simp at hi
    rw [List.getElem?_set_ne (Ne.symm hne)] at hi
    exact ⟨hne, hi⟩
  have hH2 : Holds ro fr2 Φ (H.set id none) w := by
    refine ⟨hH.hro, fun i o ho => ?_, fun i x hi => hH.own i x (hget hi).2, fun i j x y r p q hi hj => hH.inj i j x y r p q (hget hi).2 (hget hj).2, fun i x r p hi hp => ?_, fun i p hp => by simpa using hH.dom i p hp, fun i o ho => ?_⟩
    · change (if i = r1 then _ else _) = _ at ho
      split at ho
      · rename_i q; subst q; cases ho; exact hc1
      · exact hH.hfr i o ho
    · obtain ⟨hne, hi⟩ := hget hi
      have := hH.sep i x r p hi hp
      refine ⟨this.1, ?_⟩
      show (if r = r1 then _ else _) = _
      rw [if_neg]
      · exact this.2
      · rintro rfl; exact hne (hH.inj i id x b r p _ hi hid hp hΦ)
    · show (if i = r1 then _ else _) = _
      rw [if_neg]
      · exact hH.disj i o ho
      · rintro rfl; rw [hsep.1] at ho; cases ho
  have hargs : ∀ (j : Nat) (v : AV) (u : Value), (frzL true id b as)[j]? = some v → vs[j]? = some u → VR ro bo2 Φ v u := by
    intro j v u hj hu
    obtain ⟨x, h1, rfl⟩ := subL_get _ _ _ hj
    exact VR.frz hΦ hm hc2 hl (fun j v u hj hu => (hc3 j v u hj hu).mono (Mem.le_refl _) (fun _ _ q => by cases q) (Emb.le_refl _)) hc4 (Mem.le_refl _) hbo (hV j x u h1 hu)
  refine CallsX.mono (h ro bo2 fr2 Φ w vs (by rw [hvs]; simp [frzL, subL_length]) hargs hH2 hb2) ?_
  rintro e w' ⟨u, ro', Φ', rfl, g1, g2, g3, g4, g5⟩
  have hfr1 : fr2 r1 = some (.cells c b.elem) := by show (if r1 = r1 then _ else _) = _; rw [if_pos rfl]
  have hwr : w'.heap[r1]? = some (.cells c b.elem) := g2.hfr r1 _ hfr1
  have hΦ' : Φ' id = some (r1, o, sz) := g4 _ _ hΦ
  have hro1 : ro' r1 = none := by
    cases hq : ro' r1 with
    | none => rfl
    | some o => have := g2.disj r1 o hq; rw [hfr1] at this; cases this
  have hset : ∀ {i : Nat} {x : Blk}, (H'.set id (some b))[i]? = some (some x) → (i = id ∧ x = b) ∨ (i ≠ id ∧ H'[i]? = some (some x)) := fun {i x} hi => by
    by_cases hq : i = id
    · subst hq; rw [List.getElem?_set_self hH'] at hi; cases hi; exact .inl ⟨rfl, rfl⟩
    · rw [List.getElem?_set_ne (Ne.symm hq)] at hi; exact .inr ⟨hq, hi⟩
  have hoth : ∀ {i : Nat} {x : Blk} {r : Nat} {p : Nat × Nat}, H'[i]? = some (some x) → Φ' i = some (r, p) → r ≠ r1 := fun {i x r p} hi hp => by
    rintro rfl
    have := (g2.sep i x r p hi hp).2
    rw [hfr1] at this; cases this
  refine ⟨u, ro', Φ', rfl, g1.unlend hcl, ⟨g2.hro, fun i o ho => ?_, fun i x hi => ?_, fun i j x y r p q hi hj hp hq => ?_, fun i x r p hi hp => ?_, fun i p hp => by simpa using g2.dom i p hp, fun i o ho => ?_⟩, g3, g4, g5⟩
  · refine g2.hfr i o ?_
    show (if i = r1 then _ else _) = _
    rw [if_neg]
    · exact ho
    · rintro rfl; rw [hsep.2] at ho; cases ho
  · rcases hset hi with ⟨rfl, rfl⟩ | ⟨hne, hi⟩
    · exact .inr ⟨r1, o, sz, hΦ', ⟨⟨c, hwr, hc2, fun j v u hv hu => (hc3 j v u hv hu).mono g3 (Mem.le_refl _) g4, hc4⟩, hl, hx, hreal⟩⟩
    · exact g2.own i x hi
  · rcases hset hi with ⟨rfl, rfl⟩ | ⟨hne, hi2⟩
    · rcases hset hj with ⟨rfl, rfl⟩ | ⟨hne2, hj⟩
      · rfl
      · rw [hΦ'] at hp; cases hp; exact absurd rfl (hoth hj hq)
    · rcases hset hj with ⟨rfl, rfl⟩ | ⟨hne2, hj2⟩
      · rw [hΦ'] at hq; cases hq; exact absurd rfl (hoth hi2 hp)
      · exact g2.inj i j x y r p q hi2 hj2 hp hq
  · rcases hset hi with ⟨rfl, rfl⟩ | ⟨hne, hi⟩
    · rw [hΦ'] at hp; cases hp; exact ⟨hro1, hsep.2⟩
    · have h1 := g2.sep i x r p hi hp
      refine ⟨h1.1, ?_⟩
      have h2 := h1.2
      change (if r = r1 then _ else _) = _ at h2
      rw [if_neg (hoth hi hp)] at h2
      exact h2
  · have h1 := g2.disj i o ho
    change (if i = r1 then _ else _) = _ at h1
    split at h1
    · cases h1
    · exact h1
theorem FSpec.lend {f : FuncId} {as : List AV} {r : AV} {id : Nat} {b : Blk} (hid : H[id]? = some (some b)) (hne : b.cells ≠ [] ∨ b.exact = true) (hcl : r.clean = true) (hH' : id < H'.length)
    (h : FSpec P f (frzL true id b as) (H.set id none) r H') : FSpec P f as H r (H'.set id (some b)) := by
  intro ro bo fr Φ w vs hvs hV hH hb
  rcases hH.own id b hid with ⟨k1, k2, _⟩ | hat
  · rcases hne with hne | hne
    · exact absurd k1 hne
    · rw [k2] at hne; cases hne
  exact FSpec.lendR hid hcl hH' h hat vs hvs hV hH hb
def fwd (σ : List Nat) (L : Nat) (i : Nat) : Nat := match σ[i]? with
  | some k => k
  | none => L + (i - σ.length)
def putL (ρ : Nat → Nat) : List Nat → Heap → Heap → Heap
  | [], _, H => H
  | _, [], H => H
  | k :: σ, b :: l, H => putL ρ σ l (H.set k (b.map (Blk.ren ρ)))
def backH (σ : List Nat) (H Hs' : Heap) : Heap := putL (fwd σ H.length) σ Hs' H ++ (Hs'.drop σ.length).map (Option.map (Blk.ren (fwd σ H.length)))
theorem putL_length {ρ : Nat → Nat} : ∀ (σ : List Nat) (l H : Heap), (putL ρ σ l H).length = H.length
  | [], _, H => by simp [putL]
  | k :: σ, [], H => by simp [putL]
  | k :: σ, b :: l, H => by simp [putL, putL_length σ l]
theorem putL_out {ρ : Nat → Nat} : ∀ (σ : List Nat) (l H : Heap) (k : Nat), k ∉ σ → (putL ρ σ l H)[k]? = H[k]?
  | [], _, H, k, _ => by simp [putL]
  | j :: σ, [], H, k, _ => by simp [putL]
  | j :: σ, b :: l, H, k, h => by
    simp only [List.mem_cons, not_or] at h
    simp only [putL]
    rw [putL_out σ l _ k h.2, List.getElem?_set_ne (Ne.symm h.1)]
theorem putL_in {ρ : Nat → Nat} : ∀ (σ : List Nat) (l H : Heap) (i k : Nat), σ.Nodup → σ.length ≤ l.length → (∀ k ∈ σ, k < H.length) → σ[i]? = some k → (putL ρ σ l H)[k]? = l[i]?.map (Option.map (Blk.ren ρ))
  | [], l, H, i, k, _, _, _, h => by simp at h
  | j :: σ, [], H, i, k, _, hl, _, h => by simp at hl
  | j :: σ, b :: l, H, 0, k, hn, hl, hlt, h => by
    simp at h; subst h
    simp only [putL]
    rw [putL_out σ l _ j (List.nodup_cons.1 hn).1, List.getElem?_set_self (hlt j (by simp))]
    simp
  | j :: σ, b :: l, H, i + 1, k, hn, hl, hlt, h => by
    simp only [putL]
    rw [putL_in σ l _ i k (List.nodup_cons.1 hn).2 (by simpa using hl) (fun k hk => by simp; exact hlt k (by simp [hk])) (by simpa using h)]
    simp
open Classical in
theorem FSpec.frame {f : FuncId} {as : List AV} {r : AV} {Hs Hs' : Heap} (σ : List Nat) (hn : σ.Nodup) (hl : σ.length = Hs.length) (hl' : σ.length ≤ Hs'.length) (hσ : ∀ k ∈ σ, k < H.length)
    (hbk : ∀ (i k : Nat) (b : Blk), σ[i]? = some k → Hs[i]? = some (some b) → ∃ c : Blk, H[k]? = some (some c) ∧ b = Blk.ren (bwd σ) c ∧ idsL (fun k => σ.contains k) c.cells = true)
    (ha : idsL (fun k => σ.contains k) as = true) (h : FSpec P f (renL (bwd σ) as) Hs r Hs') : FSpec P f as H (r.ren (fwd σ H.length)) (backH σ H Hs') := by
  intro ro bo fr Φ w vs hvs hV hH hb
  let Φs : Emb := fun i => match σ[i]? with
    | some k => Φ k
    | none => none
  have hΦs : ∀ {i k : Nat}, σ[i]? = some k → Φs i = Φ k := fun {i k} hi => by show (match σ[i]? with | some k => Φ k | none => none) = _; rw [hi]
  have hΦs0 : ∀ {i : Nat} {p : Nat × Nat × Nat}, Φs i = some p → ∃ k, σ[i]? = some k ∧ Φ k = some p := fun {i p} hi => by
    cases hk : σ[i]? with
    | none => change (match σ[i]? with | some k => Φ k | none => none) = _ at hi; rw [hk] at hi; cases hi
    | some k => exact ⟨k, rfl, by rw [← hΦs hk]; exact hi⟩
  let Oth : Nat → Prop := fun r => ∃ j b p, j ∉ σ ∧ H[j]? = some (some b) ∧ Φ j = some (r, p)
  let frs : Mem := fun r => match fr r with
    | some o => some o
    | none => if Oth r then w.heap[r]? else none
  have hfrs1 : ∀ {r : Nat} {o : Obj}, fr r = some o → frs r = some o := fun {r o} ho => by show (match fr r with | some o => some o | none => _) = _; rw [ho]
  have hfrs2 : ∀ {r : Nat}, fr r = none → Oth r → frs r = w.heap[r]? := fun {r} h1 h2 => by show (match fr r with | some o => some o | none => _) = _; rw [h1]; exact if_pos h2
  have hfrs3 : ∀ {r : Nat}, fr r = none → ¬ Oth r → frs r = none := fun {r} h1 h2 => by show (match fr r with | some o => some o | none => _) = _; rw [h1]; exact if_neg h2
  have hfrs4 : ∀ {r : Nat}, frs r = none → fr r = none := fun {r} h1 => by
    cases hq : fr r with
    | none => rfl
    | some o => rw [hfrs1 hq] at h1; cases h1
  have bk : ∀ i p, (σ.contains i) = true → Φ i = some p → Φs (bwd σ i) = some p := fun i p hi hp => by
    rw [hΦs (bwd_get (by simpa using hi))]; exact hp
  have hHs : Holds ro frs Φs Hs w := by
    refine ⟨hH.hro, fun r o ho => ?_, fun i b hi => ?_, fun i j b c r p q hi hj hp hq => ?_, fun i b r p hi hp => ?_, fun i p hp => ?_, fun r o ho => ?_⟩
    · cases hq : fr r with
      | some o' => rw [hfrs1 hq] at ho; cases ho; exact hH.hfr r _ hq
      | none =>
        by_cases ho' : Oth r
        · rw [hfrs2 hq ho'] at ho; exact ho
        · rw [hfrs3 hq ho'] at ho; cases ho
    · have hlt : i < σ.length := by rw [hl]; exact (List.getElem?_eq_some_iff.1 hi).1
      obtain ⟨c, h1, rfl, h2⟩ := hbk i σ[i] b (List.getElem?_eq_getElem hlt) hi
      rw [hΦs (List.getElem?_eq_getElem hlt)]
      rcases hH.own _ c h1 with ⟨k1, k2, k3⟩ | ⟨r2, o2, s2, k1, ⟨⟨c2, m1, m2, m3, m4⟩, m5, m6, m7⟩⟩
      · exact .inl ⟨by simp [Blk.ren, renL, k1, subL], k2, k3⟩
      · refine .inr ⟨r2, o2, s2, k1, ⟨⟨c2, m1, m2, fun j v u hv hu => ?_, m4⟩, by simp only [Blk.ren, renL, subL_length]; exact m5, fun q => by simp only [Blk.ren, renL, subL_length]; exact m6 q, m7⟩⟩
        obtain ⟨z, n1, rfl⟩ := subL_get _ _ _ hv
        exact VR.ren bk (Mem.le_refl _) (Mem.le_refl _) (m3 j z u n1 hu) (idsL_get h2 j z n1)
    · obtain ⟨k, k1, k2⟩ := hΦs0 hp
      obtain ⟨k', k3, k4⟩ := hΦs0 hq
      obtain ⟨b', h1, _⟩ := hbk i k b k1 hi
      obtain ⟨c', h2, _⟩ := hbk j k' c k3 hj
      have := hH.inj k k' b' c' r p q h1 h2 k2 k4
      subst this
      exact (List.getElem?_inj (List.getElem?_eq_some_iff.1 k1).1 hn).1 (by rw [k1, k3])
    · obtain ⟨k, k1, k2⟩ := hΦs0 hp
      obtain ⟨b', h1, _⟩ := hbk i k b k1 hi
      have := hH.sep k b' r p h1 k2
      refine ⟨this.1, hfrs3 this.2 ?_⟩
      rintro ⟨j, c, q, g1, g2, g3⟩
      have := hH.inj j k c b' r q p g2 h1 g3 k2
      subst this
      exact g1 (List.mem_of_getElem? k1)
    · obtain ⟨k, k1, k2⟩ := hΦs0 hp
      rw [← hl]; exact (List.getElem?_eq_some_iff.1 k1).1
    · refine hfrs3 (hH.disj r o ho) ?_
      rintro ⟨j, c, q, g1, g2, g3⟩
      have := (hH.sep j c r q g2 g3).1
      rw [this] at ho; cases ho
  have hargs : ∀ (j : Nat) (v : AV) (u : Value), (renL (bwd σ) as)[j]? = some v → vs[j]? = some u → VR ro bo Φs v u := by
    intro j v u hj hu
    obtain ⟨x, h1, rfl⟩ := subL_get _ _ _ hj
    exact VR.ren bk (Mem.le_refl _) (Mem.le_refl _) (hV j x u h1 hu) (idsL_get ha j x h1)
  refine CallsX.mono (h ro bo frs Φs w vs (by rw [hvs]; simp [renL, subL_length]) hargs hHs (fun r o ho => hfrs1 (hb r o ho))) ?_
  rintro e w' ⟨u, ro', Φs', rfl, g1, g2, g3, g4, g5⟩
  let Φ' : Emb := fun k => if k < H.length then (if k ∈ σ then Φs' (bwd σ k) else Φ k) else Φs' (σ.length + (k - H.length))
  have e1 : ∀ {i k : Nat}, σ[i]? = some k → Φ' k = Φs' i := fun {i k} hk => by
    have hm : k ∈ σ := List.mem_of_getElem? hk
    show (if k < H.length then (if k ∈ σ then Φs' (bwd σ k) else Φ k) else _) = _
    rw [if_pos (hσ k hm), if_pos hm, bwd_of hn hk]
  have e2 : ∀ {k : Nat}, k < H.length → k ∉ σ → Φ' k = Φ k := fun {k} h1 h2 => by
    show (if k < H.length then (if k ∈ σ then Φs' (bwd σ k) else Φ k) else _) = _
    rw [if_pos h1, if_neg h2]
  have e3 : ∀ {k : Nat}, ¬ k < H.length → Φ' k = Φs' (σ.length + (k - H.length)) := fun {k} h1 => by
    show (if k < H.length then (if k ∈ σ then Φs' (bwd σ k) else Φ k) else _) = _
    rw [if_neg h1]
  have fw : ∀ i p, (fun _ : Nat => true) i = true → Φs' i = some p → Φ' (fwd σ H.length i) = some p := fun i p _ hp => by
    unfold fwd
    cases hk : σ[i]? with
    | some k => simp only; rw [e1 hk]; exact hp
    | none =>
      have : σ.length ≤ i := List.getElem?_eq_none_iff.1 hk
      simp only
      rw [e3 (by omega), show σ.length + (H.length + (i - σ.length) - H.length) = i by omega]; exact hp
  have le : Emb.le Φ Φ' := fun k p hp => by
    have hlt := hH.dom k p hp
    by_cases hm : k ∈ σ
    · rw [e1 (bwd_get hm)]
      exact g4 _ _ (by rw [hΦs (bwd_get hm)]; exact hp)
    · rw [e2 hlt hm]; exact hp
  have cls : ∀ {k : Nat} {x : Blk}, (backH σ H Hs')[k]? = some (some x) → (k ∉ σ ∧ k < H.length ∧ H[k]? = some (some x)) ∨ ∃ i y, Hs'[i]? = some (some y) ∧ x = Blk.ren (fwd σ H.length) y ∧ Φ' k = Φs' i ∧ k = fwd σ H.length i := by
    intro k x hk
    unfold backH at hk
    rw [List.getElem?_append, putL_length] at hk
    split at hk
    · rename_i hlt
      by_cases hm : k ∈ σ
      · have hg := bwd_get hm
        rw [putL_in σ Hs' H _ k hn hl' hσ hg] at hk
        cases hy : Hs'[bwd σ k]? with
        | none => rw [hy] at hk; simp at hk
        | some z =>
          rw [hy] at hk
          cases z with
          | none => simp at hk
          | some y =>
            simp at hk
            exact .inr ⟨_, y, hy, hk.symm, e1 hg, by unfold fwd; rw [hg]⟩
      · rw [putL_out σ Hs' H k hm] at hk
        exact .inl ⟨hm, hlt, hk⟩
    · rename_i hlt
      rw [List.getElem?_map, List.getElem?_drop] at hk
      cases hy : Hs'[σ.length + (k - H.length)]? with
      | none => rw [hy] at hk; simp at hk
      | some z =>
        rw [hy] at hk
        cases z with
        | none => simp at hk
        | some y =>
          simp at hk
          refine .inr ⟨_, y, hy, hk.symm, e3 hlt, ?_⟩
          unfold fwd
          rw [List.getElem?_eq_none (by omega)]
          simp only; omega
  have oth : ∀ {k : Nat} {x : Blk} {r : Nat} {p : Nat × Nat}, k ∉ σ → H[k]? = some (some x) → Φ k = some (r, p) → ∃ o, frs r = some o ∧ w.heap[r]? = some o := by
    intro k x r p h1 h2 h3
    have hs := hH.sep k x r p h2 h3
    have hf : frs r = w.heap[r]? := hfrs2 hs.2 ⟨k, x, p, h1, h2, h3⟩
    rcases hH.own k x h2 with ⟨_, _, k3⟩ | ⟨r2, o2, s2, k1, ⟨⟨c2, m1, _⟩, _⟩⟩
    · rw [h3] at k3; cases k3
    · rw [h3] at k1; cases k1
      exact ⟨_, by rw [hf]; exact m1, m1⟩
  refine ⟨u, ro', Φ', rfl, VR.ren (q := fun _ => true) fw (Mem.le_refl _) (Mem.le_refl _) g1 (AV.ids_true r), ⟨g2.hro, fun r o ho => g2.hfr r o (hfrs1 ho), fun k x hk => ?_, fun k k' x y r p q hk hk' hp hq => ?_, fun k x r p hk hp => ?_, fun k p hp => ?_, fun r o ho => hfrs4 (g2.disj r o ho)⟩, g3, le, g5⟩
  · rcases cls hk with ⟨h1, h2, h3⟩ | ⟨i, y, h1, rfl, h3, h4⟩
    · rw [e2 h2 h1]
      rcases hH.own k x h3 with hx | ⟨r2, o2, s2, k1, ⟨⟨c2, m1, m2, m3, m4⟩, m5, m6, m7⟩⟩
      · exact .inl hx
      · obtain ⟨o, q1, q2⟩ := oth h1 h3 k1
        rw [m1] at q2; cases q2
        exact .inr ⟨r2, o2, s2, k1, ⟨⟨c2, g2.hfr _ _ q1, m2, fun j v u hv hu => (m3 j v u hv hu).mono g3 (Mem.le_refl _) le, m4⟩, m5, m6, m7⟩⟩
    · rw [h3]
      rcases g2.own i y h1 with ⟨k1, k2, k3⟩ | ⟨r2, o2, s2, k1, ⟨⟨c2, m1, m2, m3, m4⟩, m5, m6, m7⟩⟩
      · exact .inl ⟨by simp [Blk.ren, renL, k1, subL], k2, k3⟩
      · refine .inr ⟨r2, o2, s2, k1, ⟨⟨c2, m1, m2, fun j v u hv hu => ?_, m4⟩, by simp only [Blk.ren, renL, subL_length]; exact m5, fun q => by simp only [Blk.ren, renL, subL_length]; exact m6 q, m7⟩⟩
        obtain ⟨z, n1, rfl⟩ := subL_get _ _ _ hv
        exact VR.ren (q := fun _ => true) fw (Mem.le_refl _) (Mem.le_refl _) (m3 j z u n1 hu) (AV.ids_true z)
  · rcases cls hk with ⟨h1, h2, h3⟩ | ⟨i, z, h1, rfl, h3, h4⟩
    · rw [e2 h2 h1] at hp
      rcases cls hk' with ⟨l1, l2, l3⟩ | ⟨i', z', l1, rfl, l3, l4⟩
      · rw [e2 l2 l1] at hq
        exact hH.inj k k' x y r p q h3 l3 hp hq
      · rw [l3] at hq
        obtain ⟨o, q1, _⟩ := oth h1 h3 hp
        have := (g2.sep i' z' r q l1 hq).2
        rw [q1] at this; cases this
    · rw [h3] at hp
      rcases cls hk' with ⟨l1, l2, l3⟩ | ⟨i', z', l1, rfl, l3, l4⟩
      · rw [e2 l2 l1] at hq
        obtain ⟨o, q1, _⟩ := oth l1 l3 hq
        have := (g2.sep i z r p h1 hp).2
        rw [q1] at this; cases this
      · rw [l3] at hq
        have := g2.inj i i' z z' r p q h1 l1 hp hq
        subst this
        rw [h4, l4]
  · rcases cls hk with ⟨h1, h2, h3⟩ | ⟨i, z, h1, rfl, h3, h4⟩
    · rw [e2 h2 h1] at hp
      obtain ⟨o, q1, _⟩ := oth h1 h3 hp
      refine ⟨?_, (hH.sep k x r p h3 hp).2⟩
      cases hq : ro' r with
      | none => rfl
      | some o' => have := g2.disj r o' hq; rw [q1] at this; cases this
    · rw [h3] at hp
      have := g2.sep i z r p h1 hp
      exact ⟨this.1, hfrs4 this.2⟩
  · have hlen : (backH σ H Hs').length = H.length + (Hs'.length - σ.length) := by simp [backH, putL_length]
    rw [hlen]
    by_cases hlt : k < H.length
    · omega
    · rw [e3 hlt] at hp
      have := g2.dom _ p hp
      omega
end
end Go.Fw
namespace Go.Fw
section
variable {P : Program} {ro bo fr ro' bo' : Mem} {Φ Φ' : Emb} {H H' : Heap} {w w' : World} {s : Nat → Nat → Nat → Nat → Option Nat → AV} {p : Nat → Nat → AV} {q : Nat → Bool}
mutual
theorem AV.sub_free : ∀ v : AV, v.ids (fun _ => false) = true → v.sub s p = v
  | .ptr _ _, h => by simp [AV.ids] at h
  | .slice .., h => by simp [AV.ids] at h
  | .list _ _ xs, h => by simp only [AV.ids] at h; simp [AV.sub, subL_free xs h]
  | .rptr _ xs, h => by simp only [AV.ids] at h; simp [AV.sub, subL_free xs h]
  | .agg xs, h => by simp only [AV.ids] at h; simp [AV.sub, subL_free xs h]
  | .tuple xs, h => by simp only [AV.ids] at h; simp [AV.sub, subL_free xs h]
  | .func _ a b, h => by simp only [AV.ids, Bool.and_eq_true] at h; simp [AV.sub, subL_free a h.1, subL_free b h.2]
  | .iface _ v, h => by simp only [AV.ids] at h; simp [AV.sub, AV.sub_free v h]
  | .bool _, _ => rfl
  | .int _ _, _ => rfl
  | .str _, _ => rfl
  | .nil, _ => rfl
  | .nilFunc, _ => rfl
  | .nilIface, _ => rfl
  | .map _ _, _ => rfl
theorem subL_free : ∀ xs : List AV, idsL (fun _ => false) xs = true → subL s p xs = xs
  | [], _ => rfl
  | x :: l, h => by simp only [idsL, Bool.and_eq_true] at h; simp [subL, AV.sub_free x h.1, subL_free l h.2]
end
mutual
theorem AV.ids_all : ∀ v : AV, v.ids (fun _ => false) = true → v.ids q = true
  | .ptr _ _, h => by simp [AV.ids] at h
  | .slice .., h => by simp [AV.ids] at h
  | .list _ _ xs, h => by simp only [AV.ids] at h ⊢; exact idsL_all xs h
  | .rptr _ xs, h => by simp only [AV.ids] at h ⊢; exact idsL_all xs h
  | .agg xs, h => by simp only [AV.ids] at h ⊢; exact idsL_all xs h
  | .tuple xs, h => by simp only [AV.ids] at h ⊢; exact idsL_all xs h
  | .func _ a b, h => by simp only [AV.ids, Bool.and_eq_true] at h ⊢; exact ⟨idsL_all a h.1, idsL_all b h.2⟩
  | .iface _ v, h => by simp only [AV.ids] at h ⊢; exact AV.ids_all v h
  | .bool _, _ => rfl
  | .int _ _, _ => rfl
  | .str _, _ => rfl
  | .nil, _ => rfl
  | .nilFunc, _ => rfl
  | .nilIface, _ => rfl
  | .map _ _, _ => rfl
theorem idsL_all : ∀ xs : List AV, idsL (fun _ => false) xs = true → idsL q xs = true
  | [], _ => rfl
  | x :: l, h => by simp only [idsL, Bool.and_eq_true] at h ⊢; exact ⟨AV.ids_all x h.1, idsL_all l h.2⟩
end
theorem FSpec.new {f : FuncId} {as : List AV} {r : AV} {Hs : Heap} (h : FSpec P f as [] r Hs) (ha : idsL (fun _ => false) as = true) : FSpec P f as H (r.ren (fwd [] H.length)) (H ++ Hs.map (Option.map (Blk.ren (fwd [] H.length)))) := by
  have := FSpec.frame (P := P) (H := H) (f := f) (as := as) (r := r) (Hs := []) (Hs' := Hs) [] List.nodup_nil rfl (Nat.zero_le _) (by simp) (by simp) (idsL_all as ha) (by unfold renL; rw [subL_free as ha]; exact h)
  simpa [backH, putL] using this
theorem FSpec.pure {f : FuncId} {as : List AV} {r : AV} (h : FSpec P f as [] r []) (ha : idsL (fun _ => false) as = true) (hr : r.ids (fun _ => false) = true) : FSpec P f as H r H := by
  have := FSpec.new (H := H) h ha
  unfold AV.ren at this
  rw [AV.sub_free r hr] at this
  simpa using this
def lendAll : Heap → List Nat → List AV → List AV
  | _, [], as => as
  | H, id :: l, as => match H.blk id with
    | some b => lendAll (H.set id none) l (frzL true id b as)
    | none => as
theorem Heap.set_self {H : Heap} {id : Nat} {x : Option Blk} (h : H[id]? = some x) : (H.set id none).set id x = H := by
  rw [List.set_set]
  apply List.ext_getElem?
  intro i
  by_cases hi : id = i
  · subst hi; rw [List.getElem?_set_self (List.getElem?_eq_some_iff.1 h).1, h]
  · rw [List.getElem?_set_ne hi]
theorem lend_all {f : FuncId} {r : AV} (hcl : r.clean = true) : ∀ (l : List Nat) (H G : Heap) (as : List AV), Heap.le H G → (∀ G, FSpec P f (lendAll H l as) G r G) → FSpec P f as G r G
  | [], H, G, as, _, h => h G
  | id :: l, H, G, as, hle, h => by
    simp only [lendAll] at h
    cases hb : H.blk id with
    | none => rw [hb] at h; exact h G
    | some b =>
      rw [hb] at h
      simp only at h
      have hid := hle id b (blk_at hb)
      have hlt : id < G.length := (List.getElem?_eq_some_iff.1 hid).1
      have le1 : Heap.le (H.set id none) (G.set id none) := fun i x hi => by
        by_cases hq : id = i
        · subst hq
          rw [List.getElem?_set] at hi
          simp at hi
        · rw [List.getElem?_set_ne hq] at hi ⊢; exact hle i x hi
      have le2 : Heap.le (H.set id none) G := fun i x hi => by
        by_cases hq : id = i
        · subst hq
          rw [List.getElem?_set] at hi
          simp at hi
        · rw [List.getElem?_set_ne hq] at hi; exact hle i x hi
      have g1 := lend_all hcl l (H.set id none) (G.set id none) _ le1 h
      have g2 := lend_all hcl l (H.set id none) G _ le2 h
      by_cases hne : b.cells ≠ [] ∨ b.exact = true
      · have := FSpec.lend hid hne hcl (by simpa using hlt) g1
        rwa [Heap.set_self hid] at this
      · intro ro bo fr Φ w vs hvs hV hH hbo
        rcases hH.own id b hid with ⟨k1, k2, k3⟩ | ⟨r1, o, sz, hΦ, hat⟩
        · refine g2 ro bo fr Φ w vs (by rw [hvs]; simp [frzL, subL_length]) (fun j v u hj hu => ?_) hH hbo
          obtain ⟨x, h1, rfl⟩ := subL_get _ _ _ hj
          exact VR.frz0 k3 (hV j x u h1 hu)
        · have := FSpec.lendR hid hcl (by simpa using hlt) g1 ⟨r1, o, sz, hΦ, hat⟩ vs hvs hV hH hbo
          rwa [Heap.set_self hid] at this
theorem FSpec.lends {f : FuncId} {as : List AV} {r : AV} (l : List Nat) (h : FSpec P f (lendAll H l as) [] r []) (ha : idsL (fun _ => false) (lendAll H l as) = true) (hr : r.ids (fun _ => false) = true) (hcl : r.clean = true) : FSpec P f as H r H :=
  lend_all hcl l H H as (fun _ _ h => h) fun _ => FSpec.pure h ha hr
end
section
variable {P : Program} {L : Nat} {k : List It} {e : Env} {H : Heap} {Q : Post} {p : Pend} {d : Option Nat} {pos : Nat} {ks chk : List Nat} {l : List (DOper × List Nat)}
theorem WO_callP (ls : List Nat) {f : FuncId} {args : List Opd} {as as' : List AV} {r : AV} (h1 : e.opds args = some as) (hl : lendAll H ls as = as') (h2 : FSpec P f as' [] r []) (h0 : idsL (fun _ => false) as' = true ∧ r.ids (fun _ => false) = true ∧ r.clean = true) (h3 : chkF chk p H) (h4 : WR P L l p ((e.setO d r).dels ks) H k Q) :
    WO P L (.call f args) pos chk d ks l p e H k Q := by
  subst hl
  exact WO_call h1 (FSpec.lends ls h2 h0.1 h0.2.1 h0.2.2) h3 h4
theorem WO_callQ {f : FuncId} {args : List Opd} {as : List AV} {r : AV} (h1 : e.opds args = some as) (h2 : FSpec P f as [] r []) (h0 : idsL (fun _ => false) as = true ∧ r.ids (fun _ => false) = true) (h4 : WR P L l p ((e.setO d r).dels ks) H k Q) :
    WO P L (.callP f args) pos chk d ks l p e H k Q := by
  refine ⟨as, h1, r, fun H => FSpec.pure h2 h0.1 h0.2, ?_⟩
  refine ⟨fun h => Bool.noConfusion h, ?_⟩
  exact h4
theorem FSpec.extern {f : FuncId} {fn : Func} {en : Array Value → Sem Value} {as : List AV} {r : AV} (hf : P.funcs[f]? = some fn) (hname : (fn.name == "runtime.NumGoroutine") = false)
    (hb : fn.body.isNone = true) (hn : Extern.findNext fn = none) (he : Extern.find fn = some en)
    (hr : ∀ (ro bo : Mem) (Φ : Emb) (w : World) (vs : Array Value), vs.size = as.length → (∀ (j : Nat) (v : AV) (u : Value), as[j]? = some v → vs[j]? = some u → VR ro bo Φ v u) → ∃ u, (en vs).run P w = .ok u w ∧ VR ro bo Φ r u) : FSpec P f as H r H := by
  intro ro bo fr Φ w vs hvs hV hH hbo
  obtain ⟨u, h1, h2⟩ := hr ro bo Φ w vs hvs hV
  refine .inr ⟨u, w, ?_, u, ro, Φ, rfl, h2, hH, Mem.le_refl _, Emb.le_refl _, WExt.refl _⟩
  rw [run_callFunc_extern hf hname hb hn he, h1]
  rfl
def sub64En : Array Value → Sem Value := fun args => do
  let (x, y, b) ← Extern.MathBitsCarry.three "Sub64" args
  pure (Extern.MathBitsCarry.pair ((x + Extern.MathBitsCarry.m64 - y - b) % Extern.MathBitsCarry.m64) (if x < y + b then 1 else 0))
theorem run_sub64En (x y b : Nat) (hb : b ≤ 1) (w : World) : (sub64En #[.int .u64 x, .int .u64 y, .int .u64 b]).run P w = .ok (.tuple #[.int .u64 (((x + 18446744073709551616 - y - b) % 18446744073709551616 : Nat) : Int), .int .u64 ((if x < y + b then 1 else 0 : Nat) : Int)]) w := by
  have : b = 0 ∨ b = 1 := by omega
  rcases this with rfl | rfl <;> rfl
theorem three_args {ro bo : Mem} {Φ : Emb} {k1 k2 k3 : IntKind} {x y z : Int} {vs : Array Value} (h : vs.size = 3) (hV : ∀ (j : Nat) (v : AV) (u : Value), [AV.int k1 x, .int k2 y, .int k3 z][j]? = some v → vs[j]? = some u → VR ro bo Φ v u) : vs = #[.int k1 x, .int k2 y, .int k3 z] := by
  apply Array.ext
  · simpa using h
  · intro i h1 h2
    simp at h2
    have hi : i = 0 ∨ i = 1 ∨ i = 2 := by omega
    rcases hi with rfl | rfl | rfl
    · exact (hV 0 _ vs[0] rfl (by simp)).int_inv
    · exact (hV 1 _ vs[1] rfl (by simp)).int_inv
    · exact (hV 2 _ vs[2] rfl (by simp)).int_inv
theorem FSpec.add64 {f : FuncId} {fn : Func} (hf : P.funcs[f]? = some fn) (hname : (fn.name == "runtime.NumGoroutine") = false) (hb : fn.body.isNone = true) (hn : Extern.findNext fn = none) (he : Extern.find fn = some add64Entry) (x y c : Nat) (hc : c ≤ 1) :
    FSpec P f [.int .u64 x, .int .u64 y, .int .u64 c] H (.tuple [.int .u64 ((x + y + c) % 18446744073709551616 : Nat), .int .u64 ((x + y + c) / 18446744073709551616 : Nat)]) H := by
  refine FSpec.extern hf hname hb hn he fun ro bo Φ w vs hvs hV => ?_
  have := three_args hvs hV
  subst this
  refine ⟨_, run_add64 x y c (by omega) (by omega) (by omega) (by omega) w, ?_⟩
  refine .tuple _ _ rfl fun j v u hv hu => ?_
  match j, hv, hu with
  | 0, hv, hu => simp at hv hu; subst hv; subst hu; exact .int _ _
  | 1, hv, hu => simp at hv hu; subst hv; subst hu; exact .int _ _
theorem FSpec.sub64 {f : FuncId} {fn : Func} (hf : P.funcs[f]? = some fn) (hname : (fn.name == "runtime.NumGoroutine") = false) (hb : fn.body.isNone = true) (hn : Extern.findNext fn = none) (he : Extern.find fn = some sub64En) (x y c : Nat) (hc : c ≤ 1) :
    FSpec P f [.int .u64 x, .int .u64 y, .int .u64 c] H (.tuple [.int .u64 ((x + 18446744073709551616 - y - c) % 18446744073709551616 : Nat), .int .u64 (if x < y + c then 1 else 0 : Nat)]) H := by
  refine FSpec.extern hf hname hb hn he fun ro bo Φ w vs hvs hV => ?_
  have := three_args hvs hV
  subst this
  refine ⟨_, run_sub64En x y c hc w, ?_⟩
  refine .tuple _ _ rfl fun j v u hv hu => ?_
  match j, hv, hu with
  | 0, hv, hu => simp at hv hu; subst hv; subst hu; exact .int _ _
  | 1, hv, hu => simp at hv hu; subst hv; subst hu; exact .int _ _
end
end Go.Fw
namespace Go.Fw
section
variable {s : Nat → Nat → Nat → Nat → Option Nat → AV} {p : Nat → Nat → AV} {q : Nat → Bool}
theorem ltL_map {α : Type} {n : Nat} {f : α → AV} (l : List α) (h : ∀ x, (f x).ltI n = true) : ltL n (l.map f) = true := by
  induction l with
  | nil => rfl
  | cons x l ih => simp [ltL, ih, h]
theorem idsL_map {α : Type} {f : α → AV} (l : List α) (h : ∀ x, (f x).ids q = true) : idsL q (l.map f) = true := by
  induction l with
  | nil => rfl
  | cons x l ih => simp [idsL, ih, h]
theorem cleanL_map {α : Type} {f : α → AV} (l : List α) (h : ∀ x, (f x).clean = true) : cleanL (l.map f) = true := by
  induction l with
  | nil => rfl
  | cons x l ih => simp [cleanL, ih, h]
theorem subL_map {α : Type} {f : α → AV} (l : List α) (h : ∀ x, (f x).sub s p = f x) : subL s p (l.map f) = l.map f := by
  induction l with
  | nil => rfl
  | cons x l ih => simp [subL, ih, h]
theorem ltL_flatMap {α : Type} {n : Nat} {f : α → List AV} (l : List α) (h : ∀ x, ltL n (f x) = true) : ltL n (l.flatMap f) = true := by
  induction l with
  | nil => rfl
  | cons x l ih => simp [ltL_append, ih, h]
theorem idsL_flatMap {α : Type} {f : α → List AV} (l : List α) (h : ∀ x, idsL q (f x) = true) : idsL q (l.flatMap f) = true := by
  induction l with
  | nil => rfl
  | cons x l ih => simp [idsL_append, ih, h]
theorem cleanL_flatMap {α : Type} {f : α → List AV} (l : List α) (h : ∀ x, cleanL (f x) = true) : cleanL (l.flatMap f) = true := by
  induction l with
  | nil => rfl
  | cons x l ih => simp [cleanL_append, ih, h]
theorem subL_flatMap {α : Type} {f : α → List AV} (l : List α) (h : ∀ x, subL s p (f x) = f x) : subL s p (l.flatMap f) = l.flatMap f := by
  induction l with
  | nil => rfl
  | cons x l ih => simp [subL_append, ih, h]
theorem cleanL_drop {xs : List AV} (h : cleanL xs = true) (n : Nat) : cleanL (xs.drop n) = true := by
  induction xs generalizing n with
  | nil => simp [cleanL]
  | cons x xs ih =>
    simp only [cleanL, Bool.and_eq_true] at h
    cases n with
    | zero => simp [cleanL, h.1, h.2]
    | succ n => simpa using ih h.2 n
theorem ltL_take {m : Nat} {xs : List AV} (h : ltL m xs = true) (n : Nat) : ltL m (xs.take n) = true := by
  induction xs generalizing n with
  | nil => simp [ltL]
  | cons x xs ih =>
    simp only [ltL, Bool.and_eq_true] at h
    cases n with
    | zero => rfl
    | succ n => simp [ltL, h.1, ih h.2]
theorem ltL_drop {m : Nat} {xs : List AV} (h : ltL m xs = true) (n : Nat) : ltL m (xs.drop n) = true := by
  induction xs generalizing n with
  | nil => simp [ltL]
  | cons x xs ih =>
    simp only [ltL, Bool.and_eq_true] at h
    cases n with
    | zero => simp [ltL, h.1, h.2]
    | succ n => simpa using ih h.2 n
theorem idsL_take {xs : List AV} (h : idsL q xs = true) (n : Nat) : idsL q (xs.take n) = true := by
  induction xs generalizing n with
  | nil => simp [idsL]
  | cons x xs ih =>
    simp only [idsL, Bool.and_eq_true] at h
    cases n with
    | zero => rfl
    | succ n => simp [idsL, h.1, ih h.2]
theorem idsL_drop {xs : List AV} (h : idsL q xs = true) (n : Nat) : idsL q (xs.drop n) = true := by
  induction xs generalizing n with
  | nil => simp [idsL]
  | cons x xs ih =>
    simp only [idsL, Bool.and_eq_true] at h
    cases n with
    | zero => simp [idsL, h.1, h.2]
    | succ n => simpa using ih h.2 n
theorem subL_take (xs : List AV) (n : Nat) : subL s p (xs.take n) = (subL s p xs).take n := by
  induction xs generalizing n with
  | nil => simp [subL]
  | cons x xs ih => cases n <;> simp [subL, ih]
theorem subL_drop (xs : List AV) (n : Nat) : subL s p (xs.drop n) = (subL s p xs).drop n := by
  induction xs generalizing n with
  | nil => simp [subL]
  | cons x xs ih => cases n <;> simp [subL, ih]
theorem ltL_rep (n k : Nat) (v : AV) (h : v.ltI n = true) : ltL n (List.replicate k v) = true := by
  induction k with
  | zero => rfl
  | succ k ih => simp [List.replicate_succ, ltL, ih, h]
theorem idsL_rep (k : Nat) (v : AV) (h : v.ids q = true) : idsL q (List.replicate k v) = true := by
  induction k with
  | zero => rfl
  | succ k ih => simp [List.replicate_succ, idsL, ih, h]
theorem cleanL_rep (k : Nat) (v : AV) (h : v.clean = true) : cleanL (List.replicate k v) = true := by
  induction k with
  | zero => rfl
  | succ k ih => simp [List.replicate_succ, cleanL, ih, h]
theorem subL_rep (k : Nat) (v : AV) (h : v.sub s p = v) : subL s p (List.replicate k v) = List.replicate k v := by
  induction k with
  | zero => rfl
  | succ k ih => simp [List.replicate_succ, subL, ih, h]
theorem splice_mid : ∀ (vs xs ys zs : List AV), vs.length = ys.length → splice (xs ++ ys ++ zs) xs.length vs = xs ++ vs ++ zs
  | [], xs, ys, zs, h => by simp at h; have : ys = [] := List.length_eq_zero_iff.1 h.symm; subst this; simp [splice]
  | v :: vs, xs, [], zs, h => by simp at h
  | v :: vs, xs, y :: ys, zs, h => by
    simp only [splice]
    have := splice_mid vs (xs ++ [v]) ys zs (by simpa using h)
    simp only [List.length_append, List.length_cons, List.length_nil, Nat.zero_add] at this
    rw [show (xs ++ y :: ys ++ zs).set xs.length v = xs ++ [v] ++ ys ++ zs by simp, this]; simp
theorem splice_take_drop (xs vs : List AV) (o : Nat) (h : o + vs.length ≤ xs.length) : splice xs o vs = xs.take o ++ vs ++ xs.drop (o + vs.length) := by
  have h1 : xs = xs.take o ++ (xs.drop o).take vs.length ++ xs.drop (o + vs.length) := by
    rw [List.append_assoc, ← List.drop_drop, List.take_append_drop, List.take_append_drop]
  conv => lhs; rw [h1]
  have hl : (xs.take o).length = o := by simp; omega
  have := splice_mid vs (xs.take o) ((xs.drop o).take vs.length) (xs.drop (o + vs.length)) (by simp; omega)
  rw [hl] at this
  exact this
end
section
variable {L : Nat} {r v : AV} {H H' : Heap} {e e0 : Env}
theorem fin_F (id : Nat) {b : Blk} (hid : H[id]? = some (some b)) (h : fin L r H' (v.frz false id b) (Heap.frz id b H)) : fin L r H' v H := cut_trans (cut_frz id hid) h
theorem fin_W (h : AV.wkr v r ∧ AV.ltI H'.length r = true ∧ L ≤ H'.length ∧ leHW H'.length H' H) : fin L r H' v H :=
  cut_w ⟨⟨⟨v, rfl, h.1⟩, trivial⟩, by simp [Env.lt, h.2.1], h.2.2.1, h.2.2.2⟩
theorem fin_R (σ : List Nat) (h1 : σ.Nodup) (h2 : σ.take L = List.range L) (h3 : v.ids (fun k => σ.contains k) = true) {H1 : Heap} (h4 : leR σ H σ H1) (h : fin L r H' (v.ren (bwd σ)) H1) : fin L r H' v H :=
  cut_trans (cut_ren (e0 := [(0, v.ren (bwd σ))]) σ h1 h2 ⟨⟨v, rfl, h3, rfl⟩, trivial⟩ h4) h
theorem frz_all {bw : Bool} {id e n : Nat} {b : Blk} {kc : Option Nat} (h : b.cells.length = n * e) : AV.frz bw id b (.slice e id 0 n kc) = .list e ⟨false, decide (kc = some n), bw⟩ b.cells := by
  simp only [AV.frz, AV.sub, frzS]
  rw [if_pos (by simp [h]), List.drop_zero, List.take_of_length_le (by omega)]
theorem fin_sl (id : Nat) {b : Blk} {e n : Nat} {kc : Option Nat} {ys : List AV} (hid : H[id]? = some (some b)) (hl : b.cells.length = n * e) (hw : wkrL b.cells ys) (h0 : ltL 0 ys = true) : fin 0 (.list e ⟨false, false, false⟩ ys) [] (.slice e id 0 n kc) H := by
  refine fin_F id hid (fin_W ?_)
  rw [frz_all hl]
  exact ⟨⟨.inl rfl, fun h => (Bool.false_ne_true h).elim, fun h => (Bool.false_ne_true h).elim, fun h => h, hw⟩, h0, Nat.le_refl _, trivial⟩
end
end Go.Fw
namespace Go.Fw
section
variable {P : Program} {L : Nat} {k : List It} {e e' : Env} {H H' : Heap} {Q : Post} {p : Pend} {d : Option Nat} {pos g t : Nat} {ks chk : List Nat} {l : List (DOper × List Nat)} {o : IOp} {r r' : R1} {u u' : R2} {b b' : Bool} {v v' : Option AV} {ca cb : KCode}
theorem W_cg (h1 : e = e') (h2 : H = H') : W P L k e H Q = W P L k e' H' Q := by rw [h1, h2]
theorem WR_cg (h1 : e = e') (h2 : H = H') : WR P L l p e H k Q = WR P L l p e' H' k Q := by rw [h1, h2]
theorem WO_cg (h1 : e = e') (h2 : H = H') : WO P L o pos chk d ks l p e H k Q = WO P L o pos chk d ks l p e' H' k Q := by rw [h1, h2]
theorem WS_cg (h1 : r = r') : WS P L r d ks l p e H k Q = WS P L r' d ks l p e H k Q := by rw [h1]
theorem WSr_cg (h1 : r = r') (h2 : b = b') : WSr P L r b o pos d ks l p e H k Q = WSr P L r' b' o pos d ks l p e H k Q := by rw [h1, h2]
theorem WH_cg (h1 : u = u') : WH P L u chk d ks l p e k Q = WH P L u' chk d ks l p e k Q := by rw [h1]
theorem WHA_cg {B : Nat} (h1 : u = u') : WHA P L B u chk d ks l p e k Q = WHA P L B u' chk d ks l p e k Q := by rw [h1]
theorem WG_cg (h1 : v = v') : WG P L v g b o pos chk d ks l p e H k Q = WG P L v' g b o pos chk d ks l p e H k Q := by rw [h1]
theorem WC_cg (h1 : v = v') : WC P L v t ca cb e H k Q = WC P L v' t ca cb e H k Q := by rw [h1]
theorem WX_cg {i : Nat} (h1 : e = e') (h2 : H = H') : WX P L i k e H Q = WX P L i k e' H' Q := by rw [h1, h2]
theorem WG_join (e1 : Env) (H1 : Heap) (h1 : W P L k e1 H1 Q) (h2 : ∀ k' Q', W P L k' e1 H1 Q' → WG P L v g b o pos chk d ks l p e H k' Q') : WG P L v g b o pos chk d ks l p e H k Q := h2 k Q h1
theorem FSpec.wk {f : FuncId} {as as' : List AV} {r : AV} (hw : wkrL as as') (h : FSpec P f as' H r H') : FSpec P f as H r H' := by
  intro ro bo fr Φ w vs hvs hV hH hb
  refine h ro bo fr Φ w vs (by rw [hvs]; exact wkrL_len hw) (fun j v u hj hu => ?_) hH hb
  obtain ⟨x, h1, h2⟩ := wkrL_get hw j v hj
  exact (hV j x u h1 hu).weak h2
end
end Go.Fw
namespace Go.Fw
section
variable {P : Program} {ro bo fr ro' bo' : Mem} {Φ Φ' : Emb} {H H' : Heap} {w w' : World} {L : Nat} {e e0 : Env}
def renE (ρ : Nat → Nat) : Env → Env
  | [] => []
  | (t, v) :: l => (t, v.ren ρ) :: renE ρ l
def mvN (i n k : Nat) : Nat := if k = i then n else k
def mvH (i : Nat) (b : Blk) (H : Heap) : Heap := (H.set i none).map (Option.map (Blk.ren (mvN i H.length))) ++ [some (Blk.ren (mvN i H.length) b)]
theorem cut_ghostB (id off s T : Nat) {b : Blk} {e' : Nat} {m : Md} (hs : 0 < s) (hi : H[id]? = some (some b)) (hg : b.cells[off]? = some (.list e' m [])) (hm : m.full = true) :
    cut L e H e (H.set id (some ⟨b.cells.set off (.slice s H.length 0 0 none), b.elem, b.exact⟩) ++ [some ⟨[], T, false⟩]) := fun n ro bo fr Φ0 Φ a w hb h0 hS hH => by
  have hlt : id < H.length := (List.getElem?_eq_some_iff.1 hi).1
  have hget : ∀ {i : Nat} {x : Blk}, (H.set id (some ⟨b.cells.set off (.slice s H.length 0 0 none), b.elem, b.exact⟩) ++ [some ⟨[], T, false⟩])[i]? = some (some x) → (i ≠ id ∧ H[i]? = some (some x)) ∨ (i = id ∧ x = ⟨b.cells.set off (.slice s H.length 0 0 none), b.elem, b.exact⟩) ∨ (i = H.length ∧ x = ⟨[], T, false⟩) := fun {i x} hx => by
    by_cases hl : i < H.length
    · rw [List.getElem?_append_left (by simpa using hl)] at hx
      by_cases hq : i = id
      · subst hq; rw [List.getElem?_set_self hl] at hx; cases hx; exact .inr (.inl ⟨rfl, rfl⟩)
      · rw [List.getElem?_set_ne (Ne.symm hq)] at hx; exact .inl ⟨hq, hx⟩
    · rw [List.getElem?_append_right (by simp; omega)] at hx
      simp only [List.length_set] at hx
      have : i - H.length = 0 := by
        rcases Nat.eq_zero_or_pos (i - H.length) with h | h
        · exact h
        · rw [List.getElem?_eq_none (by simp; omega)] at hx; cases hx
      rw [this] at hx; simp at hx
      exact .inr (.inr ⟨by omega, hx.symm⟩)
  have hn : Φ H.length = none := by
    cases hq : Φ H.length with
    | none => rfl
    | some p => have := hH.dom _ _ hq; omega
  refine ⟨ro, Φ, hS, ⟨hH.hro, hH.hfr, fun i x hx => ?_, fun i j x y r p q hx hy hp hq => ?_, fun i x r p hx hp => ?_, fun i p hp => by have := hH.dom i p hp; simp; omega, hH.disj⟩, Mem.le_refl _, fun i p hi => (h0 i p hi).2⟩
  · rcases hget hx with ⟨_, hx⟩ | ⟨rfl, rfl⟩ | ⟨rfl, rfl⟩
    · exact hH.own i x hx
    · rcases hH.own i b hi with ⟨k1, k2, k3⟩ | ⟨r2, o2, s2, k1, ⟨⟨c2, m1, m2, m3, m4⟩, m5, m6, m7⟩⟩
      · rw [k1] at hg; simp at hg
      · refine .inr ⟨r2, o2, s2, k1, ⟨⟨c2, m1, m2, fun j v u hv hu => ?_, m4⟩, by simpa using m5, fun q => by simpa using m6 q, m7⟩⟩
        simp only at hv
        by_cases hj : off = j
        · subst hj
          have hl := (List.getElem?_eq_some_iff.1 hg).1
          rw [List.getElem?_set_self hl] at hv
          cases hv
          have h2 := m3 off _ u hg hu
          cases h2 with
          | listNil => exact .sliceE _ _ _ _ hs
          | list _ _ _ r off' len cap c T fz he hm' hlen h1 hf =>
            have hl0 : len = 0 := by
              rcases Nat.eq_zero_or_pos len with h | h
              · exact h
              · have := Nat.mul_pos h he; simp at hlen; omega
            have := hf hm
            subst this; subst hl0
            exact .sliceE _ _ _ _ hs
        · rw [List.getElem?_set_ne hj] at hv
          exact m3 j v u hv hu
    · exact .inl ⟨rfl, rfl, hn⟩
  · rcases hget hx with ⟨_, hx1⟩ | ⟨h1, h2⟩ | ⟨h1, h2⟩
    · rcases hget hy with ⟨_, hy1⟩ | ⟨h3, h4⟩ | ⟨h3, h4⟩
      · exact hH.inj i j x y r p q hx1 hy1 hp hq
      · subst h3; exact hH.inj i j x b r p q hx1 hi hp hq
      · rw [h3, hn] at hq; cases hq
    · rcases hget hy with ⟨_, hy1⟩ | ⟨h3, h4⟩ | ⟨h3, h4⟩
      · subst h1; exact hH.inj i j b y r p q hi hy1 hp hq
      · rw [h1, h3]
      · rw [h3, hn] at hq; cases hq
    · rw [h1, hn] at hp; cases hp
  · rcases hget hx with ⟨_, hx⟩ | ⟨rfl, rfl⟩ | ⟨rfl, rfl⟩
    · exact hH.sep i x r p hx hp
    · exact hH.sep i b r p hi hp
    · rw [hn] at hp; cases hp
end
section
variable {ro bo fr : Mem} {Φ : Emb} {H H0 : Heap} {w : World} {L : Nat} {e e0 : Env}
def hasRW (σ : List Nat) : Env → Env → Prop
  | [], _ => True
  | (t, v) :: l, e => (∃ x, e.get t = some x ∧ x.ids (fun k => σ.contains k) = true ∧ AV.wkr (x.ren (bwd σ)) v) ∧ hasRW σ l e
def leRW (σ : List Nat) (H : Heap) : List Nat → Heap → Prop
  | [], H0 => H0 = []
  | _ :: ks, none :: H0 => leRW σ H ks H0
  | k :: ks, some b :: H0 => (∃ x, H.blk k = some x ∧ idsL (fun k => σ.contains k) x.cells = true ∧ wkrL (renL (bwd σ) x.cells) b.cells ∧ x.elem = b.elem ∧ (b.exact = true → x.exact = true)) ∧ leRW σ H ks H0
  | _ :: _, [] => False
theorem hasRW_get {σ : List Nat} : ∀ {e0 e : Env}, hasRW σ e0 e → ∀ (t : Nat) (v : AV), e0.get t = some v → ∃ x, e.get t = some x ∧ x.ids (fun k => σ.contains k) = true ∧ AV.wkr (x.ren (bwd σ)) v
  | [], e, _, t, v, h => by simp [Env.get] at h
  | (s, u) :: l, e, h, t, v, ht => by
    simp only [Env.get] at ht
    split at ht
    · rename_i q; cases ht; subst q; exact h.1
    · exact hasRW_get h.2 t v ht
theorem leRW_get {σ : List Nat} {H : Heap} : ∀ {ks : List Nat} {H0 : Heap}, leRW σ H ks H0 → ks.length = H0.length ∧ ∀ (i : Nat) (b : Blk), H0[i]? = some (some b) → ∃ k x, ks[i]? = some k ∧ H.blk k = some x ∧ idsL (fun k => σ.contains k) x.cells = true ∧ wkrL (renL (bwd σ) x.cells) b.cells ∧ x.elem = b.elem ∧ (b.exact = true → x.exact = true)
  | [], H0, h => by
    have : H0 = [] := h
    subst this
    exact ⟨rfl, fun i b hb => by simp at hb⟩
  | k :: ks, [], h => h.elim
  | k :: ks, none :: H0, h => by
    obtain ⟨h1, h2⟩ := leRW_get (ks := ks) (H0 := H0) h
    refine ⟨by simp [h1], fun i b hb => ?_⟩
    cases i with
    | zero => simp at hb
    | succ i => simpa using h2 i b (by simpa using hb)
  | k :: ks, some b' :: H0, h => by
    obtain ⟨⟨x, g1, g2⟩, h⟩ := h
    obtain ⟨h1, h2⟩ := leRW_get (ks := ks) (H0 := H0) h
    refine ⟨by simp [h1], fun i b hb => ?_⟩
    cases i with
    | zero => simp at hb; subst hb; exact ⟨k, x, rfl, g1, g2⟩
    | succ i => simpa using h2 i b (by simpa using hb)
theorem cut_rw (σ : List Nat) (hn : σ.Nodup) (hL : σ.take L = List.range L) (h1 : hasRW σ e0 e) (h2 : leRW σ H σ H0) : cut L e H e0 H0 := fun n ro bo fr Φ0 Φ a w hb h0 hS hH => by
  obtain ⟨hl, hg⟩ := leRW_get h2
  have bk : ∀ i p, (σ.contains i) = true → Φ i = some p → (Φ.via σ) (bwd σ i) = some p := fun i p hi hp => by
    rw [Emb.via_get (bwd_get (by simpa using hi))]; exact hp
  refine ⟨ro, Φ.via σ, ⟨hS.size, hS.defers, fun t v ht => ?_⟩, ⟨hH.hro, hH.hfr, fun i b hi => ?_, fun i j b c r p q hi hj hp hq => ?_, fun i b r p hi hp => ?_, fun i p hp => ?_, hH.disj⟩, Mem.le_refl _, fun i p hi => ?_⟩
  · obtain ⟨x, g1, g2, g3⟩ := hasRW_get h1 t v ht
    obtain ⟨u, q1, q2⟩ := hS.env t x g1
    exact ⟨u, q1, (VR.ren bk (Mem.le_refl _) (Mem.le_refl _) q2 g2).weak g3⟩
  · obtain ⟨k, x, g1, g2, g3, g4, g5, g6⟩ := hg i b hi
    have hlen : x.cells.length = b.cells.length := by have := wkrL_len g4; simpa [renL, subL_length] using this
    rw [Emb.via_get g1]
    rcases hH.own k x (blk_at g2) with ⟨k1, k2, k3⟩ | ⟨r2, o2, s2, k1, ⟨⟨c2, m1, m2, m3, m4⟩, m5, m6, m7⟩⟩
    · exact .inl ⟨by rw [k1] at hlen; exact List.length_eq_zero_iff.1 hlen.symm, (by cases hx : b.exact with
        | false => rfl
        | true => rw [g6 hx] at k2; cases k2), k3⟩
    · refine .inr ⟨r2, o2, s2, k1, ⟨⟨c2, by rw [← g5]; exact m1, m2, fun j v u hv hu => ?_, m4⟩, by rw [← hlen]; exact m5, fun q => by rw [← hlen]; exact m6 (g6 q), by rw [← g5]; exact m7⟩⟩
      obtain ⟨y, q1, q2⟩ := wkrL_get g4 j v hv
      obtain ⟨z, n1, rfl⟩ := subL_get _ _ _ q1
      exact (VR.ren bk (Mem.le_refl _) (Mem.le_refl _) (m3 j z u n1 hu) (idsL_get g3 j z n1)).weak q2
  · obtain ⟨k, k1, k2⟩ := Emb.via_some hp
    obtain ⟨k', k3, k4⟩ := Emb.via_some hq
    obtain ⟨_, x, q1, q2, _⟩ := hg i b hi
    obtain ⟨_, y, q3, q4, _⟩ := hg j c hj
    rw [k1] at q1; cases q1
    rw [k3] at q3; cases q3
    have := hH.inj k k' x y r p q (blk_at q2) (blk_at q4) k2 k4
    subst this
    exact (List.getElem?_inj (List.getElem?_eq_some_iff.1 k1).1 hn).1 (by rw [k1, k3])
  · obtain ⟨k, k1, k2⟩ := Emb.via_some hp
    obtain ⟨_, x, q1, q2, _⟩ := hg i b hi
    rw [k1] at q1; cases q1
    exact hH.sep k x r p (blk_at q2) k2
  · obtain ⟨k, k1, k2⟩ := Emb.via_some hp
    rw [← hl]; exact (List.getElem?_eq_some_iff.1 k1).1
  · obtain ⟨g1, g2⟩ := h0 i p hi
    have : σ[i]? = some i := by
      have := congrArg (fun l : List Nat => l[i]?) hL
      simp only [List.getElem?_take, if_pos g1, List.getElem?_range g1] at this
      exact this
    rw [Emb.via_get this]
    exact g2
end
section
variable {L : Nat} {r v : AV} {H H' : Heap}
theorem fin_ghostB (id off s T : Nat) {b : Blk} {e' : Nat} {m : Md} (hs : 0 < s) (hi : H[id]? = some (some b)) (hg : b.cells[off]? = some (.list e' m [])) (hm : m.full = true)
    (h : fin L r H' v (H.set id (some ⟨b.cells.set off (.slice s H.length 0 0 none), b.elem, b.exact⟩) ++ [some ⟨[], T, false⟩])) : fin L r H' v H := cut_trans (cut_ghostB id off s T hs hi hg hm) h
end
section
variable {P : Program} {L : Nat} {k : List It} {e : Env} {H : Heap} {Q : Post} {p : Pend} {d : Option Nat} {pos : Nat} {ks chk : List Nat} {l : List (DOper × List Nat)}
theorem FSpec.frameR {f : FuncId} {as : List AV} {r : AV} {Hs Hs' : Heap} (σ : List Nat) (hn : σ.Nodup) (hl' : σ.length ≤ Hs'.length) (hσ : σ.all (fun k => decide (k < H.length)) = true)
    (hR : leR σ H σ Hs) (ha : idsL (fun k => σ.contains k) as = true) (h : FSpec P f (renL (bwd σ) as) Hs r Hs') : FSpec P f as H (r.ren (fwd σ H.length)) (backH σ H Hs') := by
  obtain ⟨h1, h2⟩ := leR_get hR
  refine FSpec.frame σ hn h1 hl' (fun k hk => by simpa using List.all_eq_true.1 hσ k hk) (fun i k b hi hb => ?_) ha h
  obtain ⟨k', x, g1, g2, g3, g4⟩ := h2 i b hb
  rw [hi] at g1; cases g1
  exact ⟨x, blk_at g2, g4.symm, g3⟩
theorem WO_callF (σ : List Nat) {f : FuncId} {args : List Opd} {as as' : List AV} {r : AV} {Hs Hs' : Heap} (h1 : e.opds args = some as) (has : renL (bwd σ) as = as') (h2 : FSpec P f as' Hs r Hs') (hn : σ.Nodup ∧ σ.length ≤ Hs'.length ∧ σ.all (fun k => decide (k < H.length)) = true ∧ idsL (fun k => σ.contains k) as = true)
    (hR : leR σ H σ Hs) (h3 : chkF chk p (backH σ H Hs')) (h4 : WR P L l p ((e.setO d (r.ren (fwd σ H.length))).dels ks) (backH σ H Hs') k Q) : WO P L (.call f args) pos chk d ks l p e H k Q := by
  subst has
  exact WO_call h1 (FSpec.frameR σ hn.1 hn.2.1 hn.2.2.1 hR hn.2.2.2 h2) h3 h4
end
theorem u8i (a : UInt8) (k : Int) (h : 0 ≤ k ∧ k < 256) : ((a.toNat : Int) = k) = (a = UInt8.ofNat k.toNat) := by
  apply propext
  have e : (UInt8.ofNat k.toNat).toNat = k.toNat := UInt8.toNat_ofNat_of_lt' (by show k.toNat < 256; omega)
  refine ⟨fun q => UInt8.toNat_inj.1 ?_, fun q => ?_⟩
  · rw [e]; omega
  · rw [q, e]; omega
theorem u8e (a b : UInt8) : ((a.toNat : Int) = (b.toNat : Int)) = (a = b) := by
  apply propext
  exact ⟨fun h => UInt8.toNat_inj.1 (Int.natCast_inj.1 h), fun h => by rw [h]⟩
end Go.Fw
namespace Go.Fw
def memOf (w : World) : Mem := fun r => w.heap[r]?
def noEmb : Emb := fun _ => none
def VL (w : World) (xs : List AV) (cs : List Value) : Prop := xs.length = cs.length ∧ ∀ (j : Nat) (v : AV) (u : Value), xs[j]? = some v → cs[j]? = some u → VR (memOf w) noMem noEmb v u ∧ u.oneCell' = true
def Fit (P : Program) : Nat → TypeId → List AV → Prop
  | 0, _, _ => False
  | n + 1, t, xs => match P.underlying t with
    | some .bool => ∃ b, xs = [.bool b]
    | some (.int k) => ∃ m, (Lit.int k m).wf = true ∧ xs = [.int k m]
    | some .string => ∃ l : List UInt8, l.length ≤ reachBytes ∧ xs = [.str l]
    | some (.pointer e) => xs = [.nil] ∨ ∃ ys, Fit P n e ys ∧ ys.length = P.cellsOf e ∧ xs = [.rptr false ys]
    | some (.slice e) => ∃ (nl full : Bool) (yss : List (List AV)), (nl = true → yss = []) ∧ yss.length * P.bytesOf e ≤ reachBytes ∧ yss.length ≤ maxLen ∧ (∀ y ∈ yss, Fit P n e y ∧ y.length = P.cellsOf e) ∧ xs = [.list (P.cellsOf e) ⟨nl, full, false⟩ yss.flatten]
    | some (.struct fs) => ∃ yss : List (List AV), yss.length = fs.size ∧ xs = yss.flatten ∧ ∀ (i : Nat) (f : Field) (y : List AV), fs[i]? = some f → yss[i]? = some y → Fit P n f.type y ∧ y.length = P.cellsOf f.type
    | some (.array m e) => ∃ yss : List (List AV), yss.length = m ∧ (∀ y ∈ yss, Fit P n e y ∧ y.length = P.cellsOf e) ∧ xs = yss.flatten
    | _ => False
def fldsOK (P : Program) (g : TypeId → Bool) (T : Nat) : List Field → Nat → Bool
  | [], o => decide (o = T)
  | f :: fs, o => decide (f.offset = o) && g f.type && fldsOK P g T fs (o + P.cellsOf f.type)
def okT (P : Program) : Nat → TypeId → Bool
  | 0, _ => false
  | n + 1, t => match P.underlying t with
    | some .bool => true
    | some (.int _) => true
    | some .string => true
    | some (.pointer e) => okT P n e && decide (0 < P.cellsOf e)
    | some (.slice e) => okT P n e && decide (0 < P.cellsOf e)
    | some (.struct fs) => fldsOK P (okT P n) (P.cellsOf t) fs.toList 0
    | some (.array m e) => okT P n e && decide (P.cellsOf t = m * P.cellsOf e)
    | _ => false
section
variable {H : Type} {enc : TypeId × Value → H} {P : Program} {w : World}
theorem VL.append {a b : List AV} {c d : List Value} (h : VL w a c) (k : VL w b d) : VL w (a ++ b) (c ++ d) := by
  refine ⟨by simp [h.1, k.1], fun j v u hv hu => ?_⟩
  rw [List.getElem?_append] at hv hu
  rw [← h.1] at hu
  split at hv
  · rename_i hj; rw [if_pos hj] at hu; exact h.2 j v u hv hu
  · rename_i hj; rw [if_neg hj] at hu; exact k.2 _ v u hv hu
theorem VL.one {v : AV} {u : Value} (h : VR (memOf w) noMem noEmb v u) (ho : u.oneCell' = true) : VL w [v] [u] := ⟨rfl, fun j x y hx hy => by
  cases j with
  | zero => simp at hx hy; subst hx; subst hy; exact ⟨h, ho⟩
  | succ j => simp at hx⟩
theorem add_block (a : Addr) (n : Nat) : (a.add n).block = a.block := by unfold Addr.add; split <;> rfl
theorem add_off (a : Addr) (n : Nat) : (a.add n).off = a.off + n := by unfold Addr.add; split <;> simp_all
theorem cell_spec {a : Addr} {u : Value} (h : w.cell? a = some u) : ∃ c T fz, w.heap[a.block]? = some (.cells c T fz) ∧ a.spot = none ∧ c[a.off]? = some u := by
  unfold World.cell? at h
  split at h
  · rename_i c T fz hc
    split at h
    · cases h
    · rename_i hs
      exact ⟨c, T, fz, hc, by simpa using hs, h⟩
  · cases h
theorem cells_spec {a : Addr} {n : Nat} {cs : List Value} (h : w.cells? 0 a n = some cs) : cs.length = n ∧ ∀ i, i < n → ∃ u, cs[i]? = some u ∧ w.cell? (a.add i) = some u := by
  unfold World.cells? at h
  rw [if_pos (Nat.zero_le _)] at h
  have hl := mapM_some_length h
  simp at hl
  refine ⟨hl, fun i hi => ?_⟩
  have hg := mapM_some_get h i i (by simp [hi])
  obtain ⟨u, hu⟩ : ∃ u, cs[i]? = some u := ⟨cs[i]'(by omega), by simp⟩
  exact ⟨u, hu, by rw [hg]; exact hu⟩
theorem flds_le {g : TypeId → Bool} {T : Nat} : ∀ {fl : List Field} {o : Nat}, fldsOK P g T fl o = true → o ≤ T
  | [], o, h => by simp [fldsOK] at h; omega
  | f :: fl, o, h => by
    simp only [fldsOK, Bool.and_eq_true] at h
    have := flds_le h.2
    omega
theorem weightsAll_mem {e : TypeId} {q : Nat → Bool} : ∀ {ds : List (DataW H)}, (DataW.weightsAll P e ds).all q = true → ∀ d ∈ ds, (d.weights P e).all q = true
  | [], _, d, hd => by cases hd
  | x :: ds, h, d, hd => by
    simp only [DataW.weightsAll, List.all_append, Bool.and_eq_true] at h
    rcases List.mem_cons.1 hd with rfl | hd
    · exact h.1
    · exact weightsAll_mem h.2 d hd
theorem trod_array {n e fuel : Nat} {t : TypeId} {cs : List Value} {x : DataW H × List MemPlace} (ht : P.underlying t = some (.array n e)) (h : DataW.trod enc P w 0 (fun _ => true) true fuel t cs = some x) :
    ∃ (xs : List (DataW H × List MemPlace)) (m : Nat), x.1 = .agg (xs.map (·.1)) ∧ cs.length = P.cellsOf t ∧ xs.length = n ∧
      ∀ (i : Nat), i < n → DataW.trod enc P w 0 (fun _ => true) true m e ((cs.drop (i * P.cellsOf e)).take (P.cellsOf e)) = xs[i]? := by
  cases fuel with
  | zero => simp [DataW.trod] at h
  | succ m =>
    rw [DataW.trod_step] at h
    unfold DataW.trodStep at h
    rw [ht] at h
    simp only at h
    split at h
    · rename_i hl
      simp only [Option.map_eq_some_iff] at h
      obtain ⟨xs, hx, rfl⟩ := h
      exact ⟨xs, m, rfl, hl, by simpa using mapM_some_length hx, fun i hi => mapM_some_get hx i i (by simp [hi])⟩
    · cases h
theorem trod_fit : ∀ (m : Nat) (t : TypeId), okT P m t = true → ∀ (n : Nat) (cs : List Value) (x : DataW H × List MemPlace), DataW.trod enc P w 0 (fun _ => true) true n t cs = some x → (x.1.weights P t).all (· ≤ reachBytes) = true →
    ∃ xs, VL w xs cs ∧ Fit P m t xs := by
  intro m
  induction m with
  | zero => intro t h; simp [okT] at h
  | succ m ih =>
    intro t hok n cs x h hw
    simp only [okT] at hok
    cases hu : P.underlying t with
    | none => rw [hu] at hok; cases hok
    | some td =>
      rw [hu] at hok
      cases td <;> try (cases hok; done)
      case bool =>
        obtain ⟨b, rfl, rfl⟩ := DataW.trod_bool hu h
        exact ⟨[.bool b], VL.one (.bool b) rfl, by simp only [Fit, hu]; exact ⟨b, rfl⟩⟩
      case int k =>
        obtain ⟨z, rfl, rfl, hz⟩ := DataW.trod_int hu h
        exact ⟨[.int k z], VL.one (.int k z) rfl, by simp only [Fit, hu]; exact ⟨z, hz, rfl⟩⟩
      case string =>
        obtain ⟨s, rfl, rfl, hs⟩ := DataW.trod_string hu h
        refine ⟨[.str s.data.toList], VL.one (.str _ s rfl) rfl, ?_⟩
        simp only [Fit, hu]
        refine ⟨_, ?_, rfl⟩
        simpa [DataW.weights] using hw
      case pointer e =>
        simp only [Bool.and_eq_true, decide_eq_true_eq] at hok
        rcases DataW.trod_pointer hu h with ⟨rfl, rfl⟩ | ⟨a, cs', y, n', rfl, rfl, rfl, hc, hy⟩
        · exact ⟨[.nil], VL.one .nil rfl, by simp only [Fit, hu]; exact .inl trivial⟩
        · have hw' : (y.1.weights P e).all (· ≤ reachBytes) = true := by simpa [DataW.weights, hu] using hw
          obtain ⟨ys, hV, hF⟩ := ih e hok.1 n' cs' y hy hw'
          obtain ⟨hl, hcl⟩ := cells_spec hc
          obtain ⟨u0, hu0, hc0⟩ := hcl 0 hok.2
          obtain ⟨c, T, fz, g1, g2, g3⟩ := cell_spec hc0
          rw [add_block] at g1
          have hsp : a.spot = none := by simpa [Addr.add] using g2
          have hcells : ∀ j, j < P.cellsOf e → c[a.off + j]? = cs'[j]? := fun j hj => by
            obtain ⟨u, h1, h2⟩ := hcl j hj
            obtain ⟨c', T', fz', k1, _, k3⟩ := cell_spec h2
            rw [add_block, g1] at k1
            cases k1
            rw [add_off] at k3
            rw [k3, h1]
          obtain ⟨ab, ao, asp⟩ := a
          simp only at hsp
          subst hsp
          refine ⟨[.rptr false ys], VL.one (.rptr false ys ab ao c T fz (.inl g1) ?_ (fun j v u hv hu => ?_) (fun j u hj hu => ?_)) rfl, by simp only [Fit, hu]; exact .inr ⟨ys, hF, by rw [hV.1, hl], rfl⟩⟩
          · have : c[ao + (P.cellsOf e - 1)]? = cs'[P.cellsOf e - 1]? := hcells _ (by omega)
            have h1 : P.cellsOf e - 1 < cs'.length := by omega
            rw [List.getElem?_eq_getElem h1] at this
            have := (Array.getElem?_eq_some_iff.1 this).1
            rw [hV.1, hl]; omega
          · have hj : j < P.cellsOf e := by have := (List.getElem?_eq_some_iff.1 hv).1; rw [hV.1, hl] at this; exact this
            have : c[ao + j]? = cs'[j]? := hcells j hj
            rw [this] at hu
            exact (hV.2 j v u hv hu).1
          · have hj' : j < P.cellsOf e := by rw [hV.1, hl] at hj; exact hj
            have : c[ao + j]? = cs'[j]? := hcells j hj'
            rw [this] at hu
            exact (hV.2 j (ys[j]'hj) u (by simp) hu).2
      case slice e =>
        simp only [Bool.and_eq_true, decide_eq_true_eq] at hok
        rcases DataW.trod_slice hu h with ⟨rfl, rfl⟩ | ⟨a, len, cap, elems, rest, n', rfl, rfl, rfl, _, hlc, hcm, hel, hele, _, _⟩
        · exact ⟨[.list (P.cellsOf e) ⟨true, true, false⟩ []], VL.one (.listNil _ _ hok.2) rfl, by
            simp only [Fit, hu]; exact ⟨true, true, [], fun _ => rfl, by simp, by simp, by simp, rfl⟩⟩
        · have hw' : (elems.length + rest.length) * P.bytesOf e ≤ reachBytes ∧ (DataW.weightsAll P e (elems.map (·.1))).all (· ≤ reachBytes) = true := by
            simp only [DataW.weights, hu, List.all_cons, List.all_append, Bool.and_eq_true, decide_eq_true_eq, List.length_map] at hw
            exact ⟨hw.1, hw.2.1⟩
          have one : ∀ i, i < len → ∃ cs' ys, w.cells? 0 (a.add (i * P.cellsOf e)) (P.cellsOf e) = some cs' ∧ VL w ys cs' ∧ Fit P m e ys ∧ ys.length = P.cellsOf e := fun i hi => by
            have hg := hele i hi
            obtain ⟨y, hy⟩ : ∃ y, elems[i]? = some y := ⟨elems[i]'(by omega), by simp⟩
            rw [hy] at hg
            obtain ⟨cs', h1, h2⟩ := Option.bind_eq_some_iff.1 hg
            obtain ⟨ys, hV, hF⟩ := ih e hok.1 n' cs' y h2 (weightsAll_mem hw'.2 _ (List.mem_map.2 ⟨y, List.mem_of_getElem? hy, rfl⟩))
            exact ⟨cs', ys, h1, hV, hF, by rw [hV.1, (cells_spec h1).1]⟩
          by_cases hl0 : len = 0
          · subst hl0
            refine ⟨[.list (P.cellsOf e) ⟨false, decide (cap = 0), false⟩ []], VL.one (.list _ _ [] a.block a.off 0 cap #[] 0 (0, 0) hok.2 rfl (by simp) (Nat.zero_le _) (fun k => by simpa using k) (fun k => absurd rfl k) (fun k => absurd rfl k) (by simp) (by simp) a.spot (fun k => absurd rfl k)) rfl, ?_⟩
            simp only [Fit, hu]
            exact ⟨false, _, [], by simp, by simp, by simp, by simp, rfl⟩
          · obtain ⟨cs0, ys0, q1, _⟩ := one 0 (by omega)
            obtain ⟨hl, hcl⟩ := cells_spec q1
            obtain ⟨u0, hu0, hc0⟩ := hcl 0 hok.2
            obtain ⟨c, T, fz, g1, g2, g3⟩ := cell_spec hc0
            rw [add_block, add_block] at g1
            have hsp : a.spot = none := by simpa [Addr.add] using g2
            have row : ∀ k, k ≤ len → ∃ yss : List (List AV), yss.length = k ∧ (∀ y ∈ yss, Fit P m e y ∧ y.length = P.cellsOf e) ∧ yss.flatten.length = k * P.cellsOf e ∧ (0 < k → a.off + k * P.cellsOf e ≤ c.size) ∧
                ∀ (j : Nat) (v : AV) (u : Value), yss.flatten[j]? = some v → c[a.off + j]? = some u → VR (memOf w) noMem noEmb v u ∧ u.oneCell' = true := by
              intro k
              induction k with
              | zero => intro _; exact ⟨[], rfl, by simp, by simp, by simp, by simp⟩
              | succ k ihk =>
                intro hk
                obtain ⟨yss, r1, r2, r3, r4, r5⟩ := ihk (by omega)
                obtain ⟨cs', ys, s1, s2, s3, s4⟩ := one k (by omega)
                obtain ⟨hl', hcl'⟩ := cells_spec s1
                have hcells : ∀ j, j < P.cellsOf e → c[a.off + k * P.cellsOf e + j]? = cs'[j]? := fun j hj => by
                  obtain ⟨u, h1, h2⟩ := hcl' j hj
                  obtain ⟨c', T', fz', k1, _, k3⟩ := cell_spec h2
                  rw [add_block, add_block, g1] at k1
                  cases k1
                  rw [add_off, add_off] at k3
                  rw [k3, h1]
                refine ⟨yss ++ [ys], by simp [r1], fun y hy => ?_, by simp [r3, s4, Nat.add_mul], fun _ => ?_, fun j v u hv hu => ?_⟩
                · rcases List.mem_append.1 hy with q | q
                  · exact r2 y q
                  · simp at q; subst q; exact ⟨s3, s4⟩
                · have hlast := hcells (P.cellsOf e - 1) (by omega)
                  rw [List.getElem?_eq_getElem (show P.cellsOf e - 1 < cs'.length by omega)] at hlast
                  have := (Array.getElem?_eq_some_iff.1 hlast).1
                  rw [Nat.add_mul, Nat.one_mul]; omega
                · rw [List.flatten_append, List.getElem?_append, r3] at hv
                  split at hv
                  · exact r5 j v u hv hu
                  · rename_i hj
                    simp only [List.flatten_cons, List.flatten_nil, List.append_nil] at hv
                    have hlt : j - k * P.cellsOf e < P.cellsOf e := by have := (List.getElem?_eq_some_iff.1 hv).1; omega
                    have := hcells _ hlt
                    rw [show a.off + k * P.cellsOf e + (j - k * P.cellsOf e) = a.off + j by omega] at this
                    rw [this] at hu
                    exact s2.2 _ v u hv hu
            obtain ⟨yss, r1, r2, r3, r4, r5⟩ := row len (Nat.le_refl _)
            obtain ⟨ab, ao, asp⟩ := a
            simp only at hsp
            subst hsp
            refine ⟨[.list (P.cellsOf e) ⟨false, decide (cap = len), false⟩ yss.flatten], VL.one (.list _ _ _ ab ao len cap c T fz hok.2 rfl r3 hlc (fun k => by simpa using k) (fun _ => .inl g1) (fun _ => by rw [r3]; exact r4 (by omega)) (fun j v u hv hu => (r5 j v u hv hu).1) (fun j u hj hu => (r5 j (yss.flatten[j]'hj) u (by simp) hu).2) none (fun _ => rfl)) rfl, ?_⟩
            simp only [Fit, hu]
            refine ⟨false, _, yss, by simp, ?_, by omega, r2, rfl⟩
            have : yss.length * P.bytesOf e ≤ (elems.length + rest.length) * P.bytesOf e := Nat.mul_le_mul_right _ (by omega)
            omega
      case struct fs =>
        obtain ⟨ys, n', rfl, rfl, hl, hyl, hys⟩ := DataW.trod_struct hu h
        have hw' : (DataW.weightsEach P (fs.toList.map (·.type)) (ys.map (·.1))).all (· ≤ reachBytes) = true := by simpa [DataW.weights, hu] using hw
        have key : ∀ (fl : List Field) (zs : List (DataW H × List MemPlace)) (o : Nat), fldsOK P (okT P m) (P.cellsOf t) fl o = true → (∀ (i : Nat) (f : Field), fl[i]? = some f → DataW.trod enc P w 0 (fun _ => true) true n' f.type ((cs.drop f.offset).take (P.cellsOf f.type)) = zs[i]?) →
            zs.length = fl.length → (DataW.weightsEach P (fl.map (·.type)) (zs.map (·.1))).all (· ≤ reachBytes) = true →
            ∃ yss : List (List AV), yss.length = fl.length ∧ VL w yss.flatten (cs.drop o) ∧ ∀ (i : Nat) (f : Field) (y : List AV), fl[i]? = some f → yss[i]? = some y → Fit P m f.type y ∧ y.length = P.cellsOf f.type := by
          intro fl
          induction fl with
          | nil =>
            intro zs o hf _ _ _
            simp [fldsOK] at hf
            refine ⟨[], rfl, ?_, by simp⟩
            rw [List.drop_eq_nil_of_le (by omega)]
            exact ⟨rfl, by simp⟩
          | cons f fl ihf =>
            intro zs o hf hz hzl hwz
            have hle := hf
            simp only [fldsOK, Bool.and_eq_true, decide_eq_true_eq] at hf
            obtain ⟨⟨rfl, hg⟩, hrest⟩ := hf
            cases zs with
            | nil => simp at hzl
            | cons z zs =>
              simp only [List.map_cons, DataW.weightsEach, List.all_append, Bool.and_eq_true] at hwz
              obtain ⟨ys1, hV, hF⟩ := ih f.type hg n' _ z (by have := hz 0 f rfl; simpa using this) hwz.1
              obtain ⟨yss, s1, s2, s3⟩ := ihf zs _ hrest (fun i f' hi => by have := hz (i + 1) f' (by simpa using hi); simpa using this) (by simpa using hzl) hwz.2
              have hcl := flds_le hrest
              refine ⟨ys1 :: yss, by simp [s1], ?_, fun i f' y hi hy => ?_⟩
              · have := hV.append s2
                rw [← List.drop_drop, List.take_append_drop] at this
                simpa using this
              · cases i with
                | zero =>
                  simp at hi hy; subst hi; subst hy
                  refine ⟨hF, ?_⟩
                  rw [hV.1, List.length_take, List.length_drop, hl]; omega
                | succ i => exact s3 i f' y (by simpa using hi) (by simpa using hy)
        obtain ⟨yss, s1, s2, s3⟩ := key fs.toList ys 0 hok (fun i f hi => hys i f (by simpa using hi)) (by simpa using hyl) hw'
        refine ⟨yss.flatten, by simpa using s2, ?_⟩
        simp only [Fit, hu]
        exact ⟨yss, by simpa using s1, rfl, fun i f y hi hy => s3 i f y (by simpa using hi) hy⟩
      case array k e =>
        simp only [Bool.and_eq_true, decide_eq_true_eq] at hok
        obtain ⟨ys, n', hx, hl, hyl, hys⟩ := trod_array hu h
        have hw' : (DataW.weightsAll P e (ys.map (·.1))).all (· ≤ reachBytes) = true := by rw [hx] at hw; simpa [DataW.weights, hu] using hw
        have key : ∀ j, j ≤ k → ∃ yss : List (List AV), yss.length = j ∧ (∀ y ∈ yss, Fit P m e y ∧ y.length = P.cellsOf e) ∧ VL w yss.flatten (cs.take (j * P.cellsOf e)) := by
          intro j
          induction j with
          | zero => intro _; exact ⟨[], rfl, by simp, by simp, by simp⟩
          | succ j ihj =>
            intro hj
            obtain ⟨yss, r1, r2, r3⟩ := ihj (by omega)
            obtain ⟨y, hy⟩ : ∃ y, ys[j]? = some y := ⟨ys[j]'(by omega), by simp⟩
            obtain ⟨ys1, hV, hF⟩ := ih e hok.1 n' _ y (by rw [hys j (by omega)]; exact hy) (weightsAll_mem hw' _ (List.mem_map.2 ⟨y, List.mem_of_getElem? hy, rfl⟩))
            have hle : (j + 1) * P.cellsOf e ≤ k * P.cellsOf e := Nat.mul_le_mul_right _ hj
            rw [Nat.add_mul, Nat.one_mul] at hle
            refine ⟨yss ++ [ys1], by simp [r1], fun z hz => ?_, ?_⟩
            · rcases List.mem_append.1 hz with q | q
              · exact r2 z q
              · simp at q; subst q
                refine ⟨hF, ?_⟩
                rw [hV.1, List.length_take, List.length_drop, hl, hok.2]; omega
            · have := r3.append hV
              rw [List.flatten_append, Nat.add_mul, Nat.one_mul, List.take_add]
              simpa using this
        obtain ⟨yss, r1, r2, r3⟩ := key k (Nat.le_refl _)
        refine ⟨yss.flatten, ?_, by simp only [Fit, hu]; exact ⟨yss, r1, r2, rfl⟩⟩
        rw [List.take_of_length_le (by rw [hl, hok.2]; omega)] at r3
        exact r3
end
end Go.Fw
