/-
  A frame for proofs about programs of the model, part 3.
-/
import Derived.Test.YtifgdmfapammfaaFwB
import Derived.MapKept
set_option linter.unusedSimpArgs false
set_option linter.unnecessarySimpa false
set_option linter.unusedVariables false
set_option linter.unusedSectionVars false
namespace Go.Fw
def intsC : List AV → Option (List (IntKind × Int))
  | [] => some []
  | .int k n :: l => (intsC l).map ((k, n) :: ·)
  | _ :: _ => none
def toCV : AV → Option CV
  | .int k n => some (.int k n)
  | .agg xs => (intsC xs).map .ints
  | .func (.func f) [] [] => some (.func f)
  | _ => none
def keyC : Operand → Option (IntKind × Int)
  | .const (.int k n) => some (k, n)
  | _ => none
def mapTy (P : Program) (t : TypeId) : Bool := match P.underlying t with
  | some (.map k _) => match P.underlying k with
    | some (.int _) => true
    | _ => false
  | _ => false
def isM (ms : List Nat) : Operand → Bool
  | .tmp s => ms.contains s
  | _ => false
def bldL (P : Program) (n : Nat) (k : IntKind) : List Oper → Env → List Nat → List (Int × CV) → Option (List Nat × List (Int × CV))
  | [], _, ms, kvs => some (ms, kvs)
  | o :: l, e, ms, kvs => if o.guard.isNone = false ∨ dstOk n o.dst = false then none else match o.op with
    | .insert t m kx x => match keyC kx, ((lowO x).bind e.opd).bind toCV with
      | some (k', i), some c => if isM ms m = true ∧ k' = k ∧ lookC kvs i = none ∧ mapTy P t = true ∧ o.dst = none then bldL P n k l e ms (kvs ++ [(i, c)]) else none
      | _, _ => none
    | .move x | .assign x => if isM ms x = true then (match o.dst with
        | some d => bldL P n k l (e.del d) (d :: ms) kvs
        | none => none) else none
    | .build t ps => match lowOp P false (.build t ps) with
      | some (.build z qs) => match e.parts qs with
        | some vs => match fillA z vs with
          | some cs => bldL P n k l (e.setO o.dst (.agg cs)) (match o.dst with | some d => ms.filter (· ≠ d) | none => ms) kvs
          | none => none
        | none => none
      | _ => none
    | _ => none
def nilOps : List Oper → Bool
  | [] => true
  | o :: l => o.guard.isNone && (match o.op with | .assign (.const (.map none)) => true | _ => false) && nilOps l
def bldFn (P : Program) (f : FuncId) (k : IntKind) : Option (List (Int × CV)) := match P.funcs[f]? with
  | some fn => if fn.name == "runtime.NumGoroutine" then none else match fn.body with
    | some (.seq (.region _ ops0 false) (.seq (.region _ ops1 false) .ret)) => if nilOps ops0.toList = false then none else match ops1.toList with
      | o :: l => match o.op, o.dst, o.guard with
        | .makeMap _ none, some d, none => if decide (d < fn.ntmps) = false then none else match bldL P fn.ntmps k l [] [d] [], fn.results.toList with
          | some (ms, kvs), [.tmp t] => if ms.contains t = true then some kvs else none
          | _, _ => none
        | _, _, _ => none
      | [] => none
    | _ => none
  | none => none
section
variable {P : Program} {ro bo fr : Mem} {Φ : Emb} {e : Env} {H : Heap} {a : Act} {w w' : World}
theorem intsC_spec : ∀ {xs : List AV} {l : List (IntKind × Int)}, intsC xs = some l → xs = l.map fun (k, n) => AV.int k n
  | [], l, h => by simp [intsC] at h; subst h; rfl
  | x :: xs, l, h => by
    cases x <;> simp only [intsC] at h <;> try (cases h; done)
    obtain ⟨r, h1, rfl⟩ := map_some h
    simp [intsC_spec h1]
theorem toCV_spec {v : AV} {c : CV} (h : toCV v = some c) : v = c.av := by
  unfold toCV at h
  split at h
  · cases h; rfl
  · obtain ⟨l, h1, rfl⟩ := map_some h
    simp [CV.av, intsC_spec h1]
  · cases h; rfl
  · cases h
theorem CV.inv {c : CV} {u : Value} (h : VR ro bo Φ c.av u) : u = c.val := by
  cases c with
  | int k n => exact h.int_inv
  | ints l =>
    cases h with
    | agg _ cs h1 hx ho =>
      simp only [CV.val]
      congr 1
      apply Array.ext
      · simpa using h1
      · intro i g1 g2
        have hi : i < l.length := by simpa using g2
        have := hx i (.int l[i].1 l[i].2) cs[i] (by simp [hi]) (by simp [g1])
        simpa using this.int_inv
  | func f =>
    cases h with
    | func _ _ _ us vs h1 h2 =>
      have e1 : us = #[] := by simpa using h1
      have e2 : vs = #[] := by simpa using h2
      subst e1; subst e2; rfl
structure Bld (n : Nat) (ro bo fr : Mem) (Φ : Emb) (k : IntKind) (r : Nat) (e : Env) (ms : List Nat) (kvs : List (Int × CV)) (H : Heap) (a : Act) (w : World) : Prop where
  st : St n ro bo Φ e a
  ms : ∀ t ∈ ms, a.tmps[t]? = some (.map (some r))
  obj : ∃ es clock, Holds ro (fr.put r (.map es clock)) Φ H w ∧ es.toList.map (fun e => (e.key, e.val)) = kvs.map fun (i, c) => (Value.int k i, c.val)
  fr : fr r = none
theorem lookC_none {k : IntKind} {i : Int} {kk : IntKind} {es : List MapEntry} {kvs : List (Int × CV)} (he : es.map (fun e => (e.key, e.val)) = kvs.map fun (i, c) => (Value.int k i, c.val)) (h : lookC kvs i = none) (j : Nat) : Instr.findNow (.int kk) (.int k i) es j = some none := by
  obtain ⟨q, g1, g2⟩ := findNow_look (kk := kk) (n := i) (i := j) he
  cases q with
  | none => exact g1
  | some q =>
    obtain ⟨q1, q2⟩ := q
    obtain ⟨c, g3, _⟩ := g2
    rw [h] at g3; cases g3
theorem Bld.roN {n : Nat} {k : IntKind} {r : Nat} {ms : List Nat} {kvs : List (Int × CV)} (h : Bld n ro bo fr Φ k r e ms kvs H a w) : ro r = none := by
  obtain ⟨es, clock, h1, _⟩ := h.obj
  cases hr : ro r with
  | none => rfl
  | some o => have := h1.disj r o hr; simp [Mem.put] at this
theorem Holds.setFr {r : Nat} {o o' : Obj} (hH : Holds ro (fr.put r o) Φ H w) (h1 : w'.heap[r]? = some o') (h2 : ∀ r', r' ≠ r → w'.heap[r']? = w.heap[r']?) : Holds ro (fr.put r o') Φ H w' := by
  have hr : ∀ r' x, ro r' = some x → r' ≠ r := fun r' x h q => by subst q; have := hH.disj r' x h; simp [Mem.put] at this
  have hn : ∀ r', (fr.put r o) r' = none → r' ≠ r ∧ fr r' = none := fun r' h => by
    simp only [Mem.put] at h
    split at h
    · cases h
    · exact ⟨‹_›, h⟩
  refine ⟨fun r' x h => ?_, fun r' x h => ?_, fun i b h => ?_, hH.inj, fun i b r' p hi hp => ?_, hH.dom, fun r' x h => ?_⟩
  · rw [h2 r' (hr r' x h)]; exact hH.hro r' x h
  · simp only [Mem.put] at h
    split at h
    · rename_i q; subst q; cases h; exact h1
    · rename_i q
      rw [h2 r' q]
      exact hH.hfr r' x (by simp only [Mem.put]; rw [if_neg q]; exact h)
  · rcases hH.own i b h with h' | ⟨r', o1, s1, g1, g2⟩
    · exact .inl h'
    · have := (hn r' (hH.sep i b r' _ h g1).2).1
      exact .inr ⟨r', o1, s1, g1, g2.mono (Mem.le_refl _) (Emb.le_refl _) (h2 r' this)⟩
  · obtain ⟨g1, g2⟩ := hH.sep i b r' p hi hp
    obtain ⟨g3, g4⟩ := hn r' g2
    exact ⟨g1, by simp only [Mem.put]; rw [if_neg g3]; exact g4⟩
  · have q := hr r' x h
    simp only [Mem.put]
    rw [if_neg q]
    exact (hn r' (hH.disj r' x h)).2
theorem St.del {n : Nat} (h : St n ro bo Φ e a) {d : Nat} (hd : d < n) (u : Value) : St n ro bo Φ (e.del d) (a.put (some d) u) := by
  refine ⟨by simp [Act.put, h.size], by simpa [Act.put] using h.defers, fun t x ht => ?_⟩
  rw [Env.get_del] at ht
  split at ht
  · cases ht
  · rename_i hne
    obtain ⟨u', h1, h2⟩ := h.env t x ht
    exact ⟨u', by simp only [Act.put]; rw [Array.getElem?_setIfInBounds_ne (fun q => hne (by rw [q]))]; exact h1, h2⟩
theorem bld_list {n r : Nat} {k : IntKind} {ops : Array Oper} (hb : Mem.le bo fr) {Q : Exit → Act → World → Prop} {ms' : List Nat} {kvs' : List (Int × CV)} : ∀ (l : List Oper) (e : Env) (ms : List Nat) (kvs : List (Int × CV)) (ro : Mem) (a : Act) (w : World),
    bldL P n k l e ms kvs = some (ms', kvs') → Bld n ro bo fr Φ k r e ms kvs H a w → (∀ a' w' e' ro', Bld n ro' bo fr Φ k r e' ms' kvs' H a' w' → Mem.le ro ro' → WExt w w' → Q .normal a' w') → wpList P ops Q l a w := by
  intro l
  induction l with
  | nil =>
    intro e ms kvs ro a w hl hB hQ
    simp only [bldL, Option.some.injEq, Prod.mk.injEq] at hl
    obtain ⟨rfl, rfl⟩ := hl
    exact hQ a w e ro hB (Mem.le_refl _) (WExt.refl _)
  | cons o l ih =>
    intro e ms kvs ro a w hl hB hQ
    simp only [bldL] at hl
    split at hl
    · cases hl
    rename_i hgd
    have hg : o.guard = none := by
      cases hx : o.guard with
      | none => rfl
      | some _ => exact absurd (.inl (by simp [hx])) hgd
    have hd : dstOk n o.dst = true := by
      cases hx : dstOk n o.dst with
      | true => rfl
      | false => exact absurd (.inr hx) hgd
    obtain ⟨es, clock, hH, hes⟩ := hB.obj
    have hlt : r < w.heap.size := (Array.getElem?_eq_some_iff.1 (hH.hfr r (.map es clock) (by simp [Mem.put]))).1
    have hat : w.heap[r]? = some (.map es clock) := hH.hfr r (.map es clock) (by simp [Mem.put])
    have hbo : ∀ o', Mem.le bo (fr.put r o') := fun o' r' x h => by
      have := hb r' x h
      simp only [Mem.put]
      rw [if_neg (fun q => by subst q; rw [hB.fr] at this; cases this)]; exact this
    have mvs : ∀ {x : Operand}, (execOp a.eval o).run P w = .ok (.value (a.eval x)) w → isM ms x = true → (match o.dst with | some d => bldL P n k l (e.del d) (d :: ms) kvs | none => none) = some (ms', kvs') → wpList P ops Q (o :: l) a w := by
      intro x he hx hl
      cases hdd : o.dst with
      | none => rw [hdd] at hl; cases hl
      | some d =>
        rw [hdd] at hl hd
        simp only [dstOk, decide_eq_true_eq] at hd
        refine wpList_plain hg fun K hK => ?_
        unfold Oper.wp
        rw [he, Oper.upon_value, hdd]
        cases x <;> simp only [isM] at hx <;> try (cases hx; done)
        rename_i s
        have hs := hB.ms s (by simpa using hx)
        refine hK _ _ (ih _ _ _ ro _ w hl ⟨hB.st.del hd _, fun t ht => ?_, ⟨es, clock, hH, hes⟩, hB.fr⟩ hQ)
        have hv : a.eval (.tmp s) = .map (some r) := by simp [Act.eval, hs]
        simp only [Act.put, hv]
        by_cases htd : d = t
        · subst htd
          rw [Array.getElem?_setIfInBounds_self_of_lt (by rw [hB.st.size]; exact hd)]
        · rw [Array.getElem?_setIfInBounds_ne htd]
          exact hB.ms t ((List.mem_cons.1 ht).resolve_left (fun q => htd q.symm))
    cases hop : o.op <;> rw [hop] at hl <;> try (cases hl; done)
    case move x =>
      simp only at hl
      split at hl
      · rename_i hx; exact mvs (by simp [execOp, hop]) hx hl
      · cases hl
    case assign x =>
      simp only at hl
      split at hl
      · rename_i hx; exact mvs (by simp [execOp, hop]) hx hl
      · cases hl
    case build t ps =>
      simp only at hl
      split at hl
      · rename_i z qs hlow
        split at hl
        · rename_i vs hvs
          split at hl
          · rename_i cs hcs
            refine wpList_plain hg fun K hK => ?_
            obtain ⟨v, u, ro', w', rfl, g2, g3, g4, g5, g6⟩ := ev_sound (io := .build z qs) (K := fun v => v = .agg cs) (by rw [hop]; exact hlow) rfl hB.st.env hH (hbo _) ⟨vs, cs, hvs, hcs, rfl⟩
            unfold Oper.wp
            rw [g2, Oper.upon_value]
            refine hK _ _ (ih _ _ _ ro' _ w' hl ⟨(hB.st.mono g5 (Emb.le_refl _)).put hd g3, fun t ht => ?_, ⟨es, clock, g4, hes⟩, hB.fr⟩ fun a2 w2 e2 ro2 k1 k2 k3 => hQ a2 w2 e2 ro2 k1 (Mem.le_trans g5 k2) (g6.trans k3))
            cases hdd : o.dst with
            | none => rw [hdd] at ht; exact hB.ms t ht
            | some d =>
              rw [hdd] at ht
              simp only [List.mem_filter, decide_eq_true_eq] at ht
              simp only [Act.put]
              rw [Array.getElem?_setIfInBounds_ne (Ne.symm ht.2)]
              exact hB.ms t ht.1
          · cases hl
        · cases hl
      · cases hl
    case insert t m kx x =>
      simp only at hl
      split at hl
      · rename_i k' i c hk hc
        split at hl
        · rename_i hcond
          obtain ⟨hm, rfl, hnone, hty, hdst⟩ := hcond
          unfold mapTy at hty
          split at hty
          · rename_i kt el hT
            split at hty
            · rename_i kk hkt
              cases kx <;> simp only [keyC] at hk <;> try (cases hk; done)
              rename_i cv
              cases cv <;> simp only at hk <;> try (cases hk; done)
              simp only [Option.some.injEq, Prod.mk.injEq] at hk
              obtain ⟨rfl, rfl⟩ := hk
              rename_i ck ci
              cases m <;> simp only [isM] at hm <;> try (cases hm; done)
              rename_i s
              have hs := hB.ms s (by simpa using hm)
              cases hy : lowO x with
              | none => rw [hy] at hc; cases hc
              | some y =>
                rw [hy] at hc
                simp only [Option.bind_some] at hc
                cases hv : e.opd y with
                | none => rw [hv] at hc; cases hc
                | some v =>
                  rw [hv] at hc
                  simp only [Option.bind_some] at hc
                  have hcv := toCV_spec hc
                  subst hcv
                  have hx : a.eval x = c.val := CV.inv (opd_sound hB.st.env hy hv)
                  have hme : a.eval (.tmp s) = .map (some r) := by simp [Act.eval, hs]
                  have hf := lookC_none (kk := kk) hes hnone 0
                  have hck : (Instr.checkKey false 10000 kt (.int ck ci)).run P w = .ok () w := by
                    have : ∀ m, (Instr.checkKey false (m + 1) kt (.int ck ci)).run P w = .ok () w := fun m => by
                      simp [Instr.checkKey, run_underlying hkt]
                    exact this 9999
                  have hfk : (Instr.findKey kt (.int ck ci) es.toList).run P w = .ok none w := by
                    simp [Instr.findKey, run_underlying hkt, hf]
                  have hget : (getObj r).run P w = .ok (.map es clock) w := by simp only [getObj, Sem.run, hat]
                  have hrun : (execOp a.eval o).run P w = .ok .skip { w with heap := w.heap.setIfInBounds r (.map (es.push { key := .int ck ci, val := c.val, born := clock }) (clock + 1)) } := by
                    simp only [execOp, hop, hme, hx]
                    have hce : a.eval (.const (.int ck ci)) = .int ck ci := rfl
                    rw [hce]
                    simp [Instr.mapUpdate, run_underlying hT, hget, hck, hfk, MapKept.run_setObj_map _ hat]
                  have hext : WExt w { w with heap := w.heap.setIfInBounds r (.map (es.push { key := .int ck ci, val := c.val, born := clock }) (clock + 1)) } := ⟨rfl, rfl, rfl, by simp⟩
                  refine wpList_plain hg fun K hK => ?_
                  unfold Oper.wp
                  rw [hrun, Oper.upon_skip, hdst]
                  refine hK _ _ (ih _ _ _ ro _ _ hl ⟨hB.st, hB.ms, ⟨es.push { key := .int ck ci, val := c.val, born := clock }, clock + 1, hH.setFr ?_ ?_, ?_⟩, hB.fr⟩ fun a2 w2 e2 ro2 k1 k2 k3 => hQ a2 w2 e2 ro2 k1 k2 (hext.trans k3))
                  · simp [hlt]
                  · intro r' hr'
                    simp only
                    rw [Array.getElem?_setIfInBounds_ne (Ne.symm hr')]
                  · simp [hes]
            · cases hty
          · cases hty
        · cases hl
      · cases hl
theorem nil_list {n : Nat} {ops : Array Oper} {Q : Exit → Act → World → Prop} : ∀ (l : List Oper) (a : Act), nilOps l = true → a.tmps.size = n → a.defers = [] → (∀ a' : Act, a'.tmps.size = n → a'.defers = [] → Q .normal a' w) → wpList P ops Q l a w := by
  intro l
  induction l with
  | nil => intro a _ h1 h2 hQ; exact hQ a h1 h2
  | cons o l ih =>
    intro a hl h1 h2 hQ
    simp only [nilOps, Bool.and_eq_true] at hl
    obtain ⟨⟨hg, ho⟩, hl⟩ := hl
    refine wpList_plain (by simpa using hg) fun K hK => ?_
    split at ho
    · rename_i hop
      unfold Oper.wp
      rw [show (execOp a.eval o).run P w = .ok (.value (.map none)) w by simp [execOp, hop, Act.eval], Oper.upon_value]
      refine hK _ _ (ih _ hl ?_ ?_ hQ)
      · cases o.dst <;> simp [Act.put, h1]
      · cases o.dst <;> simpa [Act.put] using h2
    · cases ho
theorem Mem.put_le {m : Mem} {r : Nat} {o : Obj} (h : m r = none) : Mem.le m (m.put r o) := fun r' x hx => by
  simp only [Mem.put]
  rw [if_neg (fun q => by subst q; rw [h] at hx; cases hx)]; exact hx
theorem FSpec.of_map {f : FuncId} {k : IntKind} {kvs : List (Int × CV)} (h : bldFn P f k = some kvs) (H : Heap) : FSpec P f [] H (.map k kvs) H := by
  intro ro bo fr Φ w vs hvs hV hH hb
  unfold bldFn at h
  cases hf : P.funcs[f]? with
  | none => rw [hf] at h; cases h
  | some fn =>
    rw [hf] at h; simp only at h
    split at h
    · cases h
    rename_i hnm
    split at h
    · rename_i id0 ops0 id1 ops1 hbd
      split at h
      · cases h
      rename_i hnil
      split at h
      · rename_i o l hol
        split at h
        · rename_i t d ho hd hg
          split at h
          · cases h
          rename_i hdn
          split at h
          · rename_i ms kvs' t' hbl hres
            split at h
            · rename_i hmt
              cases h
              refine .inl ⟨by unfold okFn; rw [hf]; simp [hbd]; simpa using hnm, ?_⟩
              refine calls_of_wp hf hbd ?_
              have hvs0 : vs = #[] := by simpa using hvs
              subst hvs0
              refine wp_seq (wp_region_list (nil_list (n := fn.ntmps) _ _ (by simpa using hnil) (by simp) rfl fun a1 s1 d1 => ?_))
              refine wp_seq (wp_region_list ?_)
              rw [hol]
              refine wpList_plain hg fun K hK => ?_
              unfold Oper.wp
              rw [show (execOp a1.eval o).run P w = .ok (.value (.map (some w.heap.size))) (w.alloc (.map #[] 0)) by simp [execOp, ho, Instr.makeMap], Oper.upon_value, hd]
              have hdl : d < fn.ntmps := by simpa using hdn
              have hfr : fr w.heap.size = none := by
                cases hx : fr w.heap.size with
                | none => rfl
                | some o => have := hH.fr_lt hx; omega
              have hold : ∀ r' x, w.heap[r']? = some x → (w.alloc (.map #[] 0)).heap[r']? = some x := fun r' x hx => alloc_old w _ r' x hx
              have hH1 : Holds ro (fr.put w.heap.size (.map #[] 0)) Φ H (w.alloc (.map #[] 0)) := by
                refine ⟨fun r' x hx => hold r' x (hH.hro r' x hx), fun r' x hx => ?_, fun i b hi => ?_, hH.inj, fun i b r' p hi hp => ?_, hH.dom, fun r' x hx => ?_⟩
                · simp only [Mem.put] at hx
                  split at hx
                  · rename_i q; subst q; cases hx; exact heap_alloc_new w _
                  · exact hold r' x (hH.hfr r' x hx)
                · refine (hH.own i b hi).imp (fun x => x) fun ⟨r', o1, s1, g1, g2⟩ => ⟨r', o1, s1, g1, g2.mono (Mem.le_refl _) (Emb.le_refl _) ?_⟩
                  obtain ⟨⟨c, g3, _⟩, _⟩ := g2
                  rw [g3]; exact hold _ _ g3
                · obtain ⟨g1, g2⟩ := hH.sep i b r' p hi hp
                  have := hH.own_lt hi hp
                  exact ⟨g1, by simp only [Mem.put]; rw [if_neg (by omega)]; exact g2⟩
                · have := hH.ro_lt hx
                  simp only [Mem.put]
                  rw [if_neg (by omega)]; exact hH.disj r' x hx
              refine hK _ _ (bld_list (r := w.heap.size) hb l [] [d] [] ro _ _ hbl ⟨⟨by simp [Act.put, s1], by simpa [Act.put] using d1, fun t x ht => by cases ht⟩, fun t ht => ?_, ⟨#[], 0, hH1, rfl⟩, hfr⟩ ?_)
              · have : t = d := by simpa using ht
                subst this
                simp only [Act.put]
                rw [Array.getElem?_setIfInBounds_self_of_lt (by rw [s1]; exact hdl)]
              · intro a2 w2 e2 ro2 hB2 hro2 hext
                refine wp_ret ?_
                obtain ⟨es, clock, hH2, hes⟩ := hB2.obj
                have hro0 := hB2.roN
                have hmt2 := hB2.ms t' (by simpa using hmt)
                have hx : (fn.results.toList.mapM (resOne a2)).run P w2 = .ok [.map (some w.heap.size)] w2 := by
                  rw [hres]; simp [List.mapM_cons, resOne, hmt2]
                refine ⟨hB2.st.defers, _, results_run hx, _, ro2.put w.heap.size (.map es clock), Φ, rfl, .map k _ _ es clock (by simp [Mem.put]) hes, ?_, Mem.le_trans hro2 (Mem.put_le hro0), Emb.le_refl _, (WExt.alloc w _).trans hext⟩
                have hat : w2.heap[w.heap.size]? = some (.map es clock) := hH2.hfr w.heap.size (.map es clock) (by simp [Mem.put])
                have hf2 : ∀ r' x, fr r' = some x → r' ≠ w.heap.size := fun r' x hx q => by subst q; rw [hfr] at hx; cases hx
                refine ⟨fun r' x hx => ?_, fun r' x hx => hH2.hfr r' x (by simp only [Mem.put]; rw [if_neg (hf2 r' x hx)]; exact hx), fun i b hi => (hH2.own i b hi).imp (fun x => x) fun ⟨r', o1, s1, g1, g2⟩ => ⟨r', o1, s1, g1, g2.mono (Mem.put_le hro0) (Emb.le_refl _) rfl⟩, hH2.inj, fun i b r' p hi hp => ?_, hH2.dom, fun r' x hx => ?_⟩
                · simp only [Mem.put] at hx
                  split at hx
                  · rename_i q; subst q; cases hx; exact hat
                  · exact hH2.hro r' x hx
                · obtain ⟨g1, g2⟩ := hH2.sep i b r' p hi hp
                  simp only [Mem.put] at g2
                  split at g2
                  · cases g2
                  · rename_i q; exact ⟨by simp only [Mem.put]; rw [if_neg q]; exact g1, g2⟩
                · simp only [Mem.put] at hx
                  split at hx
                  · rename_i q; subst q; exact hfr
                  · have := hH2.disj r' x hx
                    simp only [Mem.put] at this
                    split at this
                    · cases this
                    · exact this
            · cases h
          · cases h
        · cases h
      · cases h
    · cases h
end
end Go.Fw
namespace Go.Fw
namespace An
def bit (n : Nat) : Nat := 1 <<< n
def has (n s : Nat) : Bool := s ||| bit n == s
def mi (a b : Nat) : Nat := a ^^^ (a &&& b)
def enum : Nat → Nat → Nat → List Nat → List Nat
  | _, _, 0, l => l
  | 0, n, _ + 1, l => n :: l
  | k + 1, n, s + 1, l => enum k n ((s + 1) % (1 <<< (1 <<< k))) (enum k (n + (1 <<< k)) ((s + 1) >>> (1 <<< k)) l)
def ls (s : Nat) : List Nat := enum 9 0 s []
def ins (n : Nat) : List Nat → List Nat
  | [] => [n]
  | a :: l => bif n == a then a :: l else if n < a then n :: a :: l else a :: ins n l
def us : List Opd → List Nat → List Nat
  | [], s => s
  | .t n :: l, s => us l (ins n s)
  | .k _ :: l, s => us l s
def gu : Option (Nat × Bool) → List Nat → List Nat
  | none, s => s
  | some (g, _), s => ins g s
def dl : Option Nat → Nat
  | none => 0
  | some d => bit d
def dn : Option Nat → List Nat → List Nat
  | none, l => l
  | some d, l => ins d l
def set : List Nat → Nat
  | [] => 0
  | n :: l => bit n ||| set l
def sans (s : Nat) : List Nat → List Nat
  | [] => []
  | n :: l => bif has n s then sans s l else n :: sans s l
def opsD (out : Nat) : List DOper → Nat × List (DOper × List Nat)
  | [] => (out, [])
  | ⟨⟨d, g, o⟩, p, c⟩ :: l =>
    match opsD out l with
    | (s, l') => match gu g (us (opsI o) []) with
      | u => (set u ||| mi s (dl d), (⟨⟨d, g, o⟩, p, c⟩, sans s (dn d u)) :: l')
def toD : List IOper → List DOper
  | [] => []
  | o :: l => ⟨o, 0, []⟩ :: toD l
def liveD (out : Nat) : List DOper → Nat
  | [] => out
  | ⟨⟨d, g, o⟩, _, _⟩ :: l => set (gu g (us (opsI o) [])) ||| mi (liveD out l) (dl d)
def liveI (out : Nat) : List IOper → Nat
  | [] => out
  | ⟨d, g, o⟩ :: l => set (gu g (us (opsI o) [])) ||| mi (liveI out l) (dl d)
def varsI : List IOper → Nat
  | [] => 0
  | ⟨d, g, o⟩ :: l => dl d ||| (set (gu g (us (opsI o) [])) ||| varsI l)
def varsD : List DOper → Nat
  | [] => 0
  | ⟨⟨d, g, o⟩, _, _⟩ :: l => dl d ||| (set (gu g (us (opsI o) [])) ||| varsD l)
def exG (i : Nat) : List (Nat × Nat) → Nat
  | [] => 0
  | (j, s) :: l => bif i == j then s else exG i l
def fixN (f : Nat → Nat) : Nat → Nat → Nat
  | 0, s => s
  | n + 1, s => match f s with
    | t => bif t == s then s else fixN f n t
def uo : Opd → Nat
  | .t n => bit n
  | .k _ => 0
def live (res : Nat) : ICode → List (Nat × Nat) → Nat → Nat
  | .skip, _, out => out
  | .draw l, _, out => liveD out l
  | .drawP _ _ l, _, out => liveD out l
  | .reg l, _, out => liveI out l
  | .seq a b, x, out => live res a x (live res b x out)
  | .cond c a b, x, out => uo c ||| (live res a x out ||| live res b x out)
  | .block i c, x, out => live res c ((i, out) :: x) out
  | .loop c, x, _ => fixN (fun s => live res c x s ||| s) 20 0
  | .exit i, x, _ => exG i x
  | .ret, _, _ => res
def killL (c : KCode) : List Nat → List Nat → KCode
  | [], _ => c
  | k, keep => if keep.length < k.length then .keep keep c else .kill k c
def killK (out keep : Nat) (c : KCode) : KCode := bif out == 0 then c else killL c (ls out) (ls keep)
def plain : ICode → Bool
  | .reg _ | .draw _ | .drawP .. | .skip => true
  | .seq _ (.reg _) | .seq _ (.draw _) | .seq _ (.drawP ..) => true
  | _ => false
def inL (n : Nat) : List Nat → Bool
  | [] => false
  | a :: l => bif n == a then true else inL n l
def cutB (cs : List Nat) : ICode → Bool
  | .block i _ => inL i cs
  | .seq _ (.block i _) => inL i cs
  | _ => false
def lastN : List IOper → Option (List IOper × Nat × Bool × Opd)
  | [] => none
  | [⟨some d, none, .isNil g 1 x⟩] => some ([], d, g, x)
  | o :: l => match lastN l with
    | some (p, r) => some (o :: p, r)
    | none => none
structure Out where
  k : KCode
  live : Nat
  vars : Nat
def regK (nn : Bool) (out : Nat) (l : List IOper) : KCode :=
  match (bif nn then lastN l else none) with
  | some (pre, d, g, x) => match us [x] [] with
    | u => .regN (opsD (set u ||| mi out (bit d)) (toD pre)).2 d g x (sans out (ins d u))
  | none => .reg (opsD out (toD l)).2
def cnt : ICode → Nat
  | .reg _ | .draw _ | .drawP .. => 1
  | .seq a b | .cond _ a b => cnt a + cnt b
  | .block _ c | .loop c => cnt c
  | _ => 0
def ann (nn : Bool) (cs rs : List Nat) (res : Nat) : ICode → List (Nat × Nat) → Nat → Nat → Out
  | .skip, _, out, _ => ⟨.skip, out, 0⟩
  | .reg l, _, out, _ => ⟨regK nn out l, liveI out l, varsI l⟩
  | .draw l, _, out, _ => ⟨.draw (opsD out l).2, liveD out l, varsD l⟩
  | .drawP L m l, _, out, _ => ⟨.drawP L m (opsD out l).2, liveD out l, varsD l⟩
  | .seq a b, x, out, n => match n + cnt a with
    | m => match ann nn cs rs res b x out m with
      | ⟨kb, lb, vb⟩ => match ann nn cs rs res a x lb n with
        | ⟨ka, la, va⟩ => match (bif plain a then (bif inL (m - 1) rs then .cut kb else kb) else killK (mi (va ||| la) lb) lb kb) with
          | kc => ⟨.seq ka (bif cutB cs a then .cut kc else kc), la, va ||| vb⟩
  | .cond c a b, x, out, n => match ann nn cs rs res a x out n, ann nn cs rs res b x out (n + cnt a) with
    | ⟨ka, la, va⟩, ⟨kb, lb, vb⟩ => match uo c ||| (la ||| lb) with
      | all => ⟨.cond c (killK (mi all la) la ka) (killK (mi all lb) lb kb), all, uo c ||| (va ||| vb)⟩
  | .block i c, x, out, n => match ann nn cs rs res c ((i, out) :: x) out n with
    | ⟨k, l, v⟩ => ⟨.block i k, l, v⟩
  | .loop c, x, _, n => match fixN (fun s => live res c x s ||| s) 20 0 with
    | s => match ann nn cs rs res c x s n with
      | ⟨k, _, v⟩ => ⟨.loop k, s, v⟩
  | .exit i, x, _, _ => ⟨.exit i, exG i x, 0⟩
  | .ret, _, _, _ => ⟨.ret, res, 0⟩
def resN : List IRes → Nat
  | [] => 0
  | .tmp t :: l => bit t ||| resN l
  | .cell t _ :: l => bit t ||| resN l
def look (j : Nat) : List (Nat × Nat) → Nat
  | [] => 0
  | (k, s) :: l => bif k == j then s else look j l
def anc1 (acc : List (Nat × Nat)) : List Nat → Nat
  | [] => 0
  | j :: l => (bit j ||| look j acc) ||| anc1 acc l
def draw (ops : Array Oper) (il : List IOper) : List Nat → List (Nat × Nat) → List Nat → List DOper
  | [], _, _ => []
  | i :: l, acc, rds => match il[i]? with
    | some ⟨d, g, o⟩ => match anc1 acc (edgesOf ops i) with
      | s => ⟨⟨d, g, o⟩, i, bif isHv o then sans s rds else []⟩ :: draw ops il l ((i, s) :: acc) (bif rdI o then i :: rds else rds)
    | none => []
def code (T : Tables) (n : Nat) (fl : List (Nat × Nat)) (od : List (Nat × List Nat)) : Code → ICode
  | .region id ops d => match lowOps ⟨T, #[]⟩ n fl id ops ops.toList 0 with
    | some l => bif d then (match lookL od (1000000 + id) with
        | [] => .draw (draw ops l (orderOf od id ops.size) [] [])
        | L :: is => match aftL L is 0 l with
          | some l' => .drawP L is.length (draw ops l' (orderOf od id ops.size) [] [])
          | none => .skip) else .reg l
    | none => .skip
  | .seq a b => .seq (code T n fl od a) (code T n fl od b)
  | .cond c a b => match lowO c with
    | some z => .cond z (code T n fl od a) (code T n fl od b)
    | none => .skip
  | .block id c => .block id (code T n fl od c)
  | .loop c => .loop (code T n fl od c)
  | .exit id => .exit id
  | .ret => .ret
  | _ => .skip
end An
def lowF (T : Tables) (f : Func) (fl : List (Nat × Nat)) (od : List (Nat × List Nat)) : ICode × Nat :=
  match f.body with
  | some c => match lowRes ⟨T, #[]⟩ f.results.toList with
    | some r => (An.code T f.ntmps fl od c, An.resN r)
    | none => (.skip, 0)
  | none => (.skip, 0)
def annF (nn : Bool) (cs rs : List Nat) : ICode × Nat → KCode
  | (b, s) => (An.ann nn cs rs s b [] s 0).k
end Go.Fw
