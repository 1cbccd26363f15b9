/-
  A frame for proofs about programs of the model, part 3.
-/
import Derived.Test.YthgibibeoapfbaaFwB
import Derived.ChangeOld
import Derived.Carry
import Derived.MapKept
set_option linter.unusedSimpArgs false
set_option linter.unnecessarySimpa false
set_option linter.unusedVariables false
set_option linter.unusedSectionVars false
/-
  A law's row, out of a contract of its function: called with whatever fits, it returns true, and turns no block that was there.
-/
namespace Go.Fw
open Go.ChangeShapes Go.WideShapes Go.RowKit
def ArgFit (P : Program) (m : Nat) (t : TypeId) (a : AV) : Prop := match P.underlying t with
  | some (.struct _) => ∃ xs, a = .agg xs ∧ Fit P m t xs
  | some (.array _ _) => ∃ xs, a = .agg xs ∧ Fit P m t xs
  | _ => Fit P m t [a]
def AllFit (P : Program) (m : Nat) : List TypeId → List AV → Prop
  | [], as => as = []
  | t :: ts, as => ∃ a as', as = a :: as' ∧ ArgFit P m t a ∧ AllFit P m ts as'
section
variable {H : Type} {enc : TypeId × Value → H} {P : Program} {w : World}
theorem arg_fit {m : Nat} {t : TypeId} {v : Value} {d : DataW H} {ps : List MemPlace} {r : Reach} {b : Nat} (hok : okT P m t = true) (hval : Value.okWide P w r b t v) (h : DataW.Trod enc P w 0 (fun _ => true) true t v d ps) (hw : (d.weights P t).all (· ≤ reachBytes) = true) :
    ∃ a, VR (memOf w) noMem noEmb a v ∧ ArgFit P m t a := by
  obtain ⟨n, hn⟩ := h
  obtain ⟨xs, hV, hF⟩ := trod_fit m t hok n _ _ hn hw
  have agg : ∀ cs, v = .agg cs → VR (memOf w) noMem noEmb (.agg xs) v := by
    rintro cs rfl
    refine .agg xs cs (by simpa [Value.cells] using hV.1.symm) (fun j x u hx hu => (hV.2 j x u hx (by simpa [Value.cells] using hu)).1) (fun j u hu => ?_)
    have hj : j < xs.length := by have := (Array.getElem?_eq_some_iff.1 hu).1; rw [hV.1]; simpa [Value.cells] using this
    exact (hV.2 j xs[j] u (by simp) (by simpa [Value.cells] using hu)).2
  unfold ArgFit
  unfold Value.okWide at hval
  split
  · rename_i fs hu
    rw [hu] at hval
    obtain ⟨cs, hcs, _⟩ := hval
    exact ⟨_, agg cs hcs, xs, rfl, hF⟩
  · rename_i k e hu
    rw [hu] at hval
    obtain ⟨cs, hcs, _⟩ := hval
    exact ⟨_, agg cs hcs, xs, rfl, hF⟩
  · rename_i h1 h2
    have hc : v.cells.toList = [v] := by
      have hone : v.oneCell' = true := by
        split at hval
        · rename_i hu; exact absurd hu (h1 _)
        · rename_i hu; exact absurd hu (h2 _ _)
        · cases v <;> first | rfl | (exfalso; unfold Cell.okWide at hval; split at hval <;> first | (simp at *; done) | (unfold Cell.ok at hval; split at hval <;> simp_all))
      cases v <;> first | rfl | cases hone
    rw [hc] at hV
    obtain ⟨x, rfl⟩ : ∃ x, xs = [x] := by
      have := hV.1
      match xs, this with
      | [x], _ => exact ⟨x, rfl⟩
    exact ⟨x, (hV.2 0 x v rfl rfl).1, hF⟩
theorem args_fit {m : Nat} : ∀ {ts : List TypeId} {vs : List Value} {ds : List (DataW H)} {ps : List MemPlace}, ts.all (okT P m) = true → (∀ (j : Nat) (t : TypeId) (v : Value), ts[j]? = some t → vs[j]? = some v → ∃ r b, Value.okWide P w r b t v) →
    DataW.TrodAll enc P w 0 (fun _ => true) true ts vs ds ps → (DataW.weightsEach P ts ds).all (· ≤ reachBytes) = true →
    ∃ as, as.length = vs.length ∧ (∀ (j : Nat) (a : AV) (v : Value), as[j]? = some a → vs[j]? = some v → VR (memOf w) noMem noEmb a v) ∧ AllFit P m ts as := by
  intro ts
  induction ts with
  | nil =>
    intro vs ds ps _ _ hA _
    obtain ⟨rfl, rfl, rfl⟩ := trodAll_nil hA
    exact ⟨[], rfl, by simp, rfl⟩
  | cons t ts ih =>
    intro vs ds ps hok hval hA hw
    obtain ⟨v, vs', d, ds', p, q, rfl, rfl, rfl, h1, h2⟩ := trodAll_cons hA
    simp only [List.all_cons, Bool.and_eq_true] at hok
    simp only [DataW.weightsEach, List.all_append, Bool.and_eq_true] at hw
    obtain ⟨r, b, hv⟩ := hval 0 t v rfl rfl
    obtain ⟨a, g1, g2⟩ := arg_fit hok.1 hv h1 hw.1
    obtain ⟨as, k1, k2, k3⟩ := ih hok.2 (fun j t' v' ht hv => hval (j + 1) t' v' (by simpa using ht) (by simpa using hv)) h2 hw.2
    refine ⟨a :: as, by simp [k1], fun j x u hx hu => ?_, a, as, rfl, g2, k3⟩
    cases j with
    | zero => simp at hx hu; subst hx; subst hu; exact g1
    | succ j => exact k2 j x u (by simpa using hx) (by simpa using hu)
theorem law_calls {f : FuncId} {args : Array Value} {as : List AV} (hok : okFn P f = true) (hs : FSpec P f as [] (.bool true) []) (hl : as.length = args.toList.length) (hV : ∀ (j : Nat) (a : AV) (v : Value), as[j]? = some a → args.toList[j]? = some v → VR (memOf w) noMem noEmb a v) :
    Calls P f args w fun e w' => e = .returned (.bool true) ∧ Below w.heap.size w w' := by
  have hH : Holds (memOf w) noMem noEmb [] w := ⟨fun r o h => h, fun r o h => (by cases h), fun i b h => (by simp at h), fun i j b c r p q h => (by simp at h), fun i b r p h => (by simp at h), fun i p h => (by cases h), fun r o h => rfl⟩
  have hc := hs (memOf w) noMem noMem noEmb w args (by simpa using hl.symm) (fun j a v ha hv => hV j a v ha (by simpa using hv)) hH (Mem.le_refl _)
  rcases hc with ⟨_, hc⟩ | ⟨u, w', h1, _⟩
  rotate_left
  · rw [callFunc_run hok] at h1; cases h1
  refine Calls.mono hc ?_
  rintro e w' ⟨u, ro', Φ', rfl, g1, g2, g3, g4, g5⟩
  cases g1
  refine ⟨rfl, g5.os, g5.tape, g5.output, g5.size, fun k hk => ?_⟩
  have hk' : w.heap[k]? = some w.heap[k] := by simp [hk]
  rw [hk']
  exact g2.hro k _ (g3 k _ hk')
theorem trodAll_back (hl : laidOutB P = true) {w' : World} (hb : Below w.heap.size w w') : ∀ {ts : List TypeId} {vs : List Value} {ds : List (DataW H)} {ps : List MemPlace}, ts.all (fun t => P.readableRec t && decide (t < P.types.size)) = true →
    DataW.TrodAll enc P w 0 (fun _ => true) true ts vs ds ps → DataW.TrodAll enc P w' 0 (fun b => decide (b < w.heap.size)) true ts vs ds ps := by
  intro ts
  induction ts with
  | nil =>
    intro vs ds ps _ hA
    obtain ⟨rfl, rfl, rfl⟩ := trodAll_nil hA
    exact rfl
  | cons t ts ih =>
    intro vs ds ps hr hA
    obtain ⟨v, vs', d, ds', p, q, rfl, rfl, rfl, h1, h2⟩ := trodAll_cons hA
    simp only [List.all_cons, Bool.and_eq_true, decide_eq_true_eq] at hr
    refine ⟨p, q, Below.trod hl hr.1.1 hr.1.2 h1 hb (fun x hx => ?_), ih hr.2 h2, rfl⟩
    obtain ⟨n, hn⟩ := h1
    exact DataW.trod_lt n _ _ _ hn x hx
theorem trodAll_len : ∀ {ts : List TypeId} {vs : List Value} {ds : List (DataW H)} {ps : List MemPlace} {sp : Nat → Bool} {b : Nat} {hd : Bool}, DataW.TrodAll enc P w b sp hd ts vs ds ps → ds.length = ts.length
  | [], vs, ds, ps, sp, b, hd, h => by obtain ⟨rfl, rfl, rfl⟩ := trodAll_nil h; rfl
  | t :: ts, vs, ds, ps, sp, b, hd, h => by
    obtain ⟨v, vs', d, ds', p, q, rfl, rfl, rfl, h1, h2⟩ := trodAll_cons h
    simp [trodAll_len h2]
end
/-- The row of a law. -/
theorem law_lifted {C : Checked} {os : Os} {f : FuncId} {fn : Func} {s : ChangeSpec} {rt : TypeId} {m : Nat} {H : Type} {enc : TypeId × Value → H} (own : ownKnob C.prog.godebug = none) (started : os.Started) (noInit : C.prog.inits.idxOf? f = none) (hfn : C.prog.funcs[f]? = some fn)
    (witness : ∃ (w : World) (tape : Tape) (i : Input), w.os = os ∧ (w.forCall tape i).Shaped C.prog ∧ i.vars = [] ∧ Input.okWide C.prog (w.forCall tape i) .any w.heap.size f i ∧
      s.pre6 enc C.prog fn [] false (w.forCall tape i).memory i.args ∧ Assume.holds {} C.prog (lone (Frame.enter C.prog f i.args .normal) [] (w.forCall tape i)))
    (laid : laidOutB C.prog = true) (hv : s.vars = []) (hsf : ∀ ds : List (DataW H), ds.length = fn.params.toList.length → s.fn H ds = { results := [.lit (.bool true)], args := ds })
    (hts : fn.params.toList.all (okT C.prog m) = true) (hread : fn.params.toList.all (fun t => C.prog.readableRec t && decide (t < C.prog.types.size)) = true) (hrt : fn.resultTypes = #[rt]) (hrb : C.prog.underlying rt = some .bool)
    (hok : okFn C.prog f = true) (spec : ∀ as, AllFit C.prog m fn.params.toList as → FSpec C.prog f as [] (.bool true) []) :
    ReturnsInHanded {} C os f .any (s.pre6 enc C.prog fn [] false) (s.post enc C.prog fn false true false false) := by
  refine returnsInHanded_of_change_sized own started noInit hfn witness ?_
  intro W base args ds gs before hval hW hcnd hsz _
  have hW' := hW
  obtain ⟨p, q, hA, hV, rfl, hfz, hnd⟩ := hW
  rw [hv] at hV
  obtain ⟨rfl, rfl⟩ := trodVars_none hV
  have hvt : s.plain.varTypes C.prog = [] := by unfold DataSpec.varTypes; simp [ChangeSpec.plain, hv]
  rw [hvt, List.append_nil, List.append_nil] at hsz
  obtain ⟨as, k1, k2, k3⟩ := args_fit hts (fun j t v ht hv' => ⟨.any, base, hval j t v (by simpa using ht) (by simpa using hv')⟩) hA hsz
  refine (law_calls hok (spec as k3) k1 k2).mono fun e W' ⟨he, bel⟩ => ?_
  subst he
  have hlen := trodAll_len hA
  refine ⟨_, rfl, ds, [], _, [], p, [], hW', ?_, ?_, ?_, ?_, fun h => by cases h⟩
  · rw [List.append_nil, hsf ds hlen, hrt]
    exact trodAll_mk1 (shut_bool hrb _)
  · rw [List.append_nil, hsf ds hlen]
    exact trodAll_back laid bel hread hA
  · rw [hv, List.append_nil, hsf ds hlen]; exact rfl
  · exact bel.frame _
end Go.Fw

/-
  What arguments of laws are, read as lists and numbers.
-/
namespace Go.Fw
section
variable {P : Program} {n : Nat} {t e : TypeId} {a : AV} {xs : List AV}
theorem fit_u8 (h : P.underlying t = some (.int .u8)) (hf : Fit P (n + 1) t xs) : ∃ b : UInt8, xs = [bv b] := by
  simp only [Fit, h] at hf
  obtain ⟨m, hm, rfl⟩ := hf
  have hm : 0 ≤ m ∧ m < 256 := by
    simp [Lit.wf, IntKind.min, IntKind.max, IntKind.signed, IntKind.bits] at hm
    omega
  refine ⟨UInt8.ofNat m.toNat, ?_⟩
  simp only [bv, List.cons.injEq, AV.int.injEq, true_and, and_true]
  rw [UInt8.toNat_ofNat_of_lt' (by show m.toNat < 256; omega)]
  omega
theorem fit_int {k : IntKind} (h : P.underlying t = some (.int k)) (hf : Fit P (n + 1) t xs) : ∃ m : Int, k.min ≤ m ∧ m ≤ k.max ∧ xs = [.int k m] := by
  simp only [Fit, h] at hf
  obtain ⟨m, hm, rfl⟩ := hf
  simp [Lit.wf] at hm
  exact ⟨m, hm.1, hm.2, rfl⟩
theorem all_nil {m : Nat} {as : List AV} (h : AllFit P m [] as) : as = [] := h
theorem all_cons {m : Nat} {ts : List TypeId} {as : List AV} (h : AllFit P m (t :: ts) as) : ∃ a as', as = a :: as' ∧ ArgFit P m t a ∧ AllFit P m ts as' := h
theorem fit_array {m : Nat} (h : P.underlying t = some (.array m e)) (hf : Fit P (n + 1) t xs) : ∃ yss : List (List AV), yss.length = m ∧ (∀ y ∈ yss, Fit P n e y) ∧ xs = yss.flatten := by
  simp only [Fit, h] at hf
  obtain ⟨yss, h1, h2, h3⟩ := hf
  exact ⟨yss, h1, fun y hy => (h2 y hy).1, h3⟩
theorem arg_array {k m : Nat} (h : P.underlying t = some (.array k e)) (hf : ArgFit P (m + 1) t a) : ∃ yss : List (List AV), a = .agg yss.flatten ∧ yss.length = k ∧ (∀ y ∈ yss, Fit P m e y) := by
  simp only [ArgFit, h] at hf
  obtain ⟨xs, rfl, hf⟩ := hf
  obtain ⟨yss, h1, h2, rfl⟩ := fit_array h hf
  exact ⟨yss, rfl, h1, h2⟩
end
end Go.Fw

/-
  Functions that make a map of constants, and yield it.
-/
namespace Go.Fw

section
variable {P : Program} {ro bo fr : Mem} {Φ : Emb} {e : Env} {H : Heap} {a : Act} {w w' : World}
theorem CV.inv {c : CV} {u : Value} (h : VR ro bo Φ c.av u) : u = c.val := by
  cases c with
  | int k n => exact h.int_inv
  | ints l =>
    cases h with
    | agg _ cs h1 hx ho =>
      simp only [CV.val]
      congr 1
      apply Array.ext
      · simpa using h1
      · intro i g1 g2
        have hi : i < l.length := by simpa using g2
        have := hx i (.int l[i].1 l[i].2) cs[i] (by simp [hi]) (by simp [g1])
        simpa using this.int_inv
  | func f =>
    cases h with
    | func _ _ _ us vs h1 h2 =>
      have e1 : us = #[] := by simpa using h1
      have e2 : vs = #[] := by simpa using h2
      subst e1; subst e2; rfl
/-- A map that is being made: it lies in block 'r'. -/
structure Bld (n : Nat) (ro bo fr : Mem) (Φ : Emb) (k : IntKind) (r : Nat) (e : Env) (ms : List Nat) (kvs : List (Int × CV)) (H : Heap) (a : Act) (w : World) : Prop where
  st : St n ro bo Φ e a
  ms : ∀ t ∈ ms, a.tmps[t]? = some (.map (some r))
  obj : ∃ es clock, Holds ro (fr.put r (.map es clock)) Φ H w ∧ es.toList.map (fun e => (e.key, e.val)) = kvs.map fun (i, c) => (Value.int k i, c.val)
  fr : fr r = none
theorem St.del {n : Nat} (h : St n ro bo Φ e a) {d : Nat} (hd : d < n) (u : Value) : St n ro bo Φ (e.del d) (a.put (some d) u) := by
  refine ⟨by simp [Act.put, h.size], by simpa [Act.put] using h.defers, fun t x ht => ?_⟩
  rw [Env.get_del] at ht
  split at ht
  · cases ht
  · rename_i hne
    obtain ⟨u', h1, h2⟩ := h.env t x ht
    exact ⟨u', by simp only [Act.put]; rw [Array.getElem?_setIfInBounds_ne (fun q => hne (by rw [q]))]; exact h1, h2⟩
end
end Go.Fw
