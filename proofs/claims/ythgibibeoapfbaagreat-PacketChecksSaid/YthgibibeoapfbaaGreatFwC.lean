/-
  A frame for proofs about programs of the model, part 3.
-/
import Derived.Test.YthgibibeoapfbaaGreatFwB
import Derived.ChangeOld
import Derived.Carry
import Derived.MapKept
set_option linter.unusedSimpArgs false
set_option linter.unnecessarySimpa false
set_option linter.unusedVariables false
set_option linter.unusedSectionVars false
namespace Go.Fw
open Go.ChangeShapes Go.WideShapes Go.RowKit
def ArgFit (P : Program) (m : Nat) (t : TypeId) (a : AV) : Prop := match P.underlying t with
  | some (.struct _) => ∃ xs, a = .agg xs ∧ Fit P m t xs
  | some (.array _ _) => ∃ xs, a = .agg xs ∧ Fit P m t xs
  | _ => Fit P m t [a]
def AllFit (P : Program) (m : Nat) : List TypeId → List AV → Prop
  | [], as => as = []
  | t :: ts, as => ∃ a as', as = a :: as' ∧ ArgFit P m t a ∧ AllFit P m ts as'
section
variable {H : Type} {enc : TypeId × Value → H} {P : Program} {w : World}
theorem arg_fit {m : Nat} {t : TypeId} {v : Value} {d : DataW H} {ps : List MemPlace} {r : Reach} {b : Nat} (hok : okT P m t = true) (hval : Value.okWide P w r b t v) (h : DataW.Trod enc P w 0 (fun _ => true) true t v d ps) (hw : (d.weights P t).all (· ≤ reachBytes) = true) :
    ∃ a, VR (memOf w) noMem noEmb a v ∧ ArgFit P m t a := by
  obtain ⟨n, hn⟩ := h
  obtain ⟨xs, hV, hF⟩ := trod_fit m t hok n _ _ hn hw
  have agg : ∀ cs, v = .agg cs → VR (memOf w) noMem noEmb (.agg xs) v := by
    rintro cs rfl
    refine .agg xs cs (by simpa [Value.cells] using hV.1.symm) (fun j x u hx hu => (hV.2 j x u hx (by simpa [Value.cells] using hu)).1) (fun j u hu => ?_)
    have hj : j < xs.length := by have := (Array.getElem?_eq_some_iff.1 hu).1; rw [hV.1]; simpa [Value.cells] using this
    exact (hV.2 j xs[j] u (by simp) (by simpa [Value.cells] using hu)).2
  unfold ArgFit
  unfold Value.okWide at hval
  split
  · rename_i fs hu
    rw [hu] at hval
    obtain ⟨cs, hcs, _⟩ := hval
    exact ⟨_, agg cs hcs, xs, rfl, hF⟩
  · rename_i k e hu
    rw [hu] at hval
    obtain ⟨cs, hcs, _⟩ := hval
    exact ⟨_, agg cs hcs, xs, rfl, hF⟩
  · rename_i h1 h2
    have hc : v.cells.toList = [v] := by
      have hone : v.oneCell' = true := by
        split at hval
        · rename_i hu; exact absurd hu (h1 _)
        · rename_i hu; exact absurd hu (h2 _ _)
        · cases v <;> first | rfl | (exfalso; unfold Cell.okWide at hval; split at hval <;> first | (simp at *; done) | (unfold Cell.ok at hval; split at hval <;> simp_all))
      cases v <;> first | rfl | cases hone
    rw [hc] at hV
    obtain ⟨x, rfl⟩ : ∃ x, xs = [x] := by
      have := hV.1
      match xs, this with
      | [x], _ => exact ⟨x, rfl⟩
    exact ⟨x, (hV.2 0 x v rfl rfl).1, hF⟩
theorem args_fit {m : Nat} : ∀ {ts : List TypeId} {vs : List Value} {ds : List (DataW H)} {ps : List MemPlace}, ts.all (okT P m) = true → (∀ (j : Nat) (t : TypeId) (v : Value), ts[j]? = some t → vs[j]? = some v → ∃ r b, Value.okWide P w r b t v) →
    DataW.TrodAll enc P w 0 (fun _ => true) true ts vs ds ps → (DataW.weightsEach P ts ds).all (· ≤ reachBytes) = true →
    ∃ as, as.length = vs.length ∧ (∀ (j : Nat) (a : AV) (v : Value), as[j]? = some a → vs[j]? = some v → VR (memOf w) noMem noEmb a v) ∧ AllFit P m ts as := by
  intro ts
  induction ts with
  | nil =>
    intro vs ds ps _ _ hA _
    obtain ⟨rfl, rfl, rfl⟩ := trodAll_nil hA
    exact ⟨[], rfl, by simp, rfl⟩
  | cons t ts ih =>
    intro vs ds ps hok hval hA hw
    obtain ⟨v, vs', d, ds', p, q, rfl, rfl, rfl, h1, h2⟩ := trodAll_cons hA
    simp only [List.all_cons, Bool.and_eq_true] at hok
    simp only [DataW.weightsEach, List.all_append, Bool.and_eq_true] at hw
    obtain ⟨r, b, hv⟩ := hval 0 t v rfl rfl
    obtain ⟨a, g1, g2⟩ := arg_fit hok.1 hv h1 hw.1
    obtain ⟨as, k1, k2, k3⟩ := ih hok.2 (fun j t' v' ht hv => hval (j + 1) t' v' (by simpa using ht) (by simpa using hv)) h2 hw.2
    refine ⟨a :: as, by simp [k1], fun j x u hx hu => ?_, a, as, rfl, g2, k3⟩
    cases j with
    | zero => simp at hx hu; subst hx; subst hu; exact g1
    | succ j => exact k2 j x u (by simpa using hx) (by simpa using hu)
theorem law_calls {f : FuncId} {args : Array Value} {as : List AV} (hok : okFn P f = true) (hs : FSpec P f as [] (.bool true) []) (hl : as.length = args.toList.length) (hV : ∀ (j : Nat) (a : AV) (v : Value), as[j]? = some a → args.toList[j]? = some v → VR (memOf w) noMem noEmb a v) :
    Calls P f args w fun e w' => e = .returned (.bool true) ∧ Below w.heap.size w w' := by
  have hH : Holds (memOf w) noMem noEmb [] w := ⟨fun r o h => h, fun r o h => (by cases h), fun i b h => (by simp at h), fun i j b c r p q h => (by simp at h), fun i b r p h => (by simp at h), fun i p h => (by cases h), fun r o h => rfl⟩
  have hc := hs (memOf w) noMem noMem noEmb w args (by simpa using hl.symm) (fun j a v ha hv => hV j a v ha (by simpa using hv)) hH (Mem.le_refl _)
  rcases hc with ⟨_, hc⟩ | ⟨u, w', h1, _⟩
  rotate_left
  · rw [callFunc_run hok] at h1; cases h1
  refine Calls.mono hc ?_
  rintro e w' ⟨u, ro', Φ', rfl, g1, g2, g3, g4, g5⟩
  cases g1
  refine ⟨rfl, g5.os, g5.tape, g5.output, g5.size, fun k hk => ?_⟩
  have hk' : w.heap[k]? = some w.heap[k] := by simp [hk]
  rw [hk']
  exact g2.hro k _ (g3 k _ hk')
theorem trodAll_back (hl : laidOutB P = true) {w' : World} (hb : Below w.heap.size w w') : ∀ {ts : List TypeId} {vs : List Value} {ds : List (DataW H)} {ps : List MemPlace}, ts.all (fun t => P.readableRec t && decide (t < P.types.size)) = true →
    DataW.TrodAll enc P w 0 (fun _ => true) true ts vs ds ps → DataW.TrodAll enc P w' 0 (fun b => decide (b < w.heap.size)) true ts vs ds ps := by
  intro ts
  induction ts with
  | nil =>
    intro vs ds ps _ hA
    obtain ⟨rfl, rfl, rfl⟩ := trodAll_nil hA
    exact rfl
  | cons t ts ih =>
    intro vs ds ps hr hA
    obtain ⟨v, vs', d, ds', p, q, rfl, rfl, rfl, h1, h2⟩ := trodAll_cons hA
    simp only [List.all_cons, Bool.and_eq_true, decide_eq_true_eq] at hr
    refine ⟨p, q, Below.trod hl hr.1.1 hr.1.2 h1 hb (fun x hx => ?_), ih hr.2 h2, rfl⟩
    obtain ⟨n, hn⟩ := h1
    exact DataW.trod_lt n _ _ _ hn x hx
theorem trodAll_len : ∀ {ts : List TypeId} {vs : List Value} {ds : List (DataW H)} {ps : List MemPlace} {sp : Nat → Bool} {b : Nat} {hd : Bool}, DataW.TrodAll enc P w b sp hd ts vs ds ps → ds.length = ts.length
  | [], vs, ds, ps, sp, b, hd, h => by obtain ⟨rfl, rfl, rfl⟩ := trodAll_nil h; rfl
  | t :: ts, vs, ds, ps, sp, b, hd, h => by
    obtain ⟨v, vs', d, ds', p, q, rfl, rfl, rfl, h1, h2⟩ := trodAll_cons h
    simp [trodAll_len h2]
end
theorem law_lifted {C : Checked} {os : Os} {f : FuncId} {fn : Func} {s : ChangeSpec} {rt : TypeId} {m : Nat} {H : Type} {enc : TypeId × Value → H} (own : ownKnob C.prog.godebug = none) (started : os.Started) (noInit : C.prog.inits.idxOf? f = none) (hfn : C.prog.funcs[f]? = some fn)
    (witness : ∃ (w : World) (tape : Tape) (i : Input), w.os = os ∧ (w.forCall tape i).Shaped C.prog ∧ i.vars = [] ∧ Input.okWide C.prog (w.forCall tape i) .any w.heap.size f i ∧
      s.pre6 enc C.prog fn [] false (w.forCall tape i).memory i.args ∧ Assume.holds {} C.prog (lone (Frame.enter C.prog f i.args .normal) [] (w.forCall tape i)))
    (laid : laidOutB C.prog = true) (hv : s.vars = []) (hsf : ∀ ds : List (DataW H), ds.length = fn.params.toList.length → s.fn H ds = { results := [.lit (.bool true)], args := ds })
    (hts : fn.params.toList.all (okT C.prog m) = true) (hread : fn.params.toList.all (fun t => C.prog.readableRec t && decide (t < C.prog.types.size)) = true) (hrt : fn.resultTypes = #[rt]) (hrb : C.prog.underlying rt = some .bool)
    (hok : okFn C.prog f = true) (spec : ∀ as, AllFit C.prog m fn.params.toList as → FSpec C.prog f as [] (.bool true) []) :
    ReturnsInHanded {} C os f .any (s.pre6 enc C.prog fn [] false) (s.post enc C.prog fn false true false false) := by
  refine returnsInHanded_of_change_sized own started noInit hfn witness ?_
  intro W base args ds gs before hval hW hcnd hsz _
  have hW' := hW
  obtain ⟨p, q, hA, hV, rfl, hfz, hnd⟩ := hW
  rw [hv] at hV
  obtain ⟨rfl, rfl⟩ := trodVars_none hV
  have hvt : s.plain.varTypes C.prog = [] := by unfold DataSpec.varTypes; simp [ChangeSpec.plain, hv]
  rw [hvt, List.append_nil, List.append_nil] at hsz
  obtain ⟨as, k1, k2, k3⟩ := args_fit hts (fun j t v ht hv' => ⟨.any, base, hval j t v (by simpa using ht) (by simpa using hv')⟩) hA hsz
  refine (law_calls hok (spec as k3) k1 k2).mono fun e W' ⟨he, bel⟩ => ?_
  subst he
  have hlen := trodAll_len hA
  refine ⟨_, rfl, ds, [], _, [], p, [], hW', ?_, ?_, ?_, ?_, fun h => by cases h⟩
  · rw [List.append_nil, hsf ds hlen, hrt]
    exact trodAll_mk1 (shut_bool hrb _)
  · rw [List.append_nil, hsf ds hlen]
    exact trodAll_back laid bel hread hA
  · rw [hv, List.append_nil, hsf ds hlen]; exact rfl
  · exact bel.frame _
end Go.Fw
namespace Go.Fw
section
variable {P : Program} {n : Nat} {t e : TypeId} {a : AV} {xs : List AV}
theorem fit_u8 (h : P.underlying t = some (.int .u8)) (hf : Fit P (n + 1) t xs) : ∃ b : UInt8, xs = [bv b] := by
  simp only [Fit, h] at hf
  obtain ⟨m, hm, rfl⟩ := hf
  have hm : 0 ≤ m ∧ m < 256 := by
    simp [Lit.wf, IntKind.min, IntKind.max, IntKind.signed, IntKind.bits] at hm
    omega
  refine ⟨UInt8.ofNat m.toNat, ?_⟩
  simp only [bv, List.cons.injEq, AV.int.injEq, true_and, and_true]
  rw [UInt8.toNat_ofNat_of_lt' (by show m.toNat < 256; omega)]
  omega
theorem fit_int {k : IntKind} (h : P.underlying t = some (.int k)) (hf : Fit P (n + 1) t xs) : ∃ m : Int, k.min ≤ m ∧ m ≤ k.max ∧ xs = [.int k m] := by
  simp only [Fit, h] at hf
  obtain ⟨m, hm, rfl⟩ := hf
  simp [Lit.wf] at hm
  exact ⟨m, hm.1, hm.2, rfl⟩
theorem all_nil {m : Nat} {as : List AV} (h : AllFit P m [] as) : as = [] := h
theorem all_cons {m : Nat} {ts : List TypeId} {as : List AV} (h : AllFit P m (t :: ts) as) : ∃ a as', as = a :: as' ∧ ArgFit P m t a ∧ AllFit P m ts as' := h
def FitFs (P : Program) (n : Nat) : List TypeId → List AV → Prop
  | [], xs => xs = []
  | t :: ts, xs => ∃ a b, xs = a ++ b ∧ Fit P n t a ∧ FitFs P n ts b
theorem fitFs_of : ∀ {ts : List TypeId} {yss : List (List AV)}, yss.length = ts.length → (∀ (i : Nat) (t : TypeId) (y : List AV), ts[i]? = some t → yss[i]? = some y → Fit P n t y) → FitFs P n ts yss.flatten
  | [], [], _, _ => rfl
  | t :: ts, y :: yss, hl, h => ⟨y, yss.flatten, rfl, h 0 t y rfl rfl, fitFs_of (by simpa using hl) fun i t' y' ht hy => h (i + 1) t' y' (by simpa using ht) (by simpa using hy)⟩
  | [], y :: yss, hl, _ => by simp at hl
  | t :: ts, [], hl, _ => by simp at hl
theorem fit_struct {fs : Array Field} (h : P.underlying t = some (.struct fs)) (hf : Fit P (n + 1) t xs) : FitFs P n (fs.toList.map (·.type)) xs := by
  simp only [Fit, h] at hf
  obtain ⟨yss, h1, rfl, h2⟩ := hf
  refine fitFs_of (by simpa using h1) fun i t' y ht hy => ?_
  simp only [List.getElem?_map, Option.map_eq_some_iff] at ht
  obtain ⟨f, hf, rfl⟩ := ht
  exact (h2 i f y (by simpa using hf) hy).1
theorem fit_array {m : Nat} (h : P.underlying t = some (.array m e)) (hf : Fit P (n + 1) t xs) : ∃ yss : List (List AV), yss.length = m ∧ (∀ y ∈ yss, Fit P n e y) ∧ xs = yss.flatten := by
  simp only [Fit, h] at hf
  obtain ⟨yss, h1, h2, h3⟩ := hf
  exact ⟨yss, h1, fun y hy => (h2 y hy).1, h3⟩
theorem arg_struct {fs : Array Field} {m : Nat} (h : P.underlying t = some (.struct fs)) (hf : ArgFit P (m + 1) t a) : ∃ xs, a = .agg xs ∧ FitFs P m (fs.toList.map (·.type)) xs := by
  simp only [ArgFit, h] at hf
  obtain ⟨xs, rfl, hf⟩ := hf
  exact ⟨xs, rfl, fit_struct h hf⟩
theorem arg_array {k m : Nat} (h : P.underlying t = some (.array k e)) (hf : ArgFit P (m + 1) t a) : ∃ yss : List (List AV), a = .agg yss.flatten ∧ yss.length = k ∧ (∀ y ∈ yss, Fit P m e y) := by
  simp only [ArgFit, h] at hf
  obtain ⟨xs, rfl, hf⟩ := hf
  obtain ⟨yss, h1, h2, rfl⟩ := fit_array h hf
  exact ⟨yss, rfl, h1, h2⟩
end
end Go.Fw
namespace Go.Fw
section
variable {P : Program} {ro bo fr : Mem} {Φ : Emb} {e : Env} {H : Heap} {a : Act} {w w' : World}
theorem CV.inv {c : CV} {u : Value} (h : VR ro bo Φ c.av u) : u = c.val := by
  cases c with
  | int k n => exact h.int_inv
  | ints l =>
    cases h with
    | agg _ cs h1 hx ho =>
      simp only [CV.val]
      congr 1
      apply Array.ext
      · simpa using h1
      · intro i g1 g2
        have hi : i < l.length := by simpa using g2
        have := hx i (.int l[i].1 l[i].2) cs[i] (by simp [hi]) (by simp [g1])
        simpa using this.int_inv
  | func f =>
    cases h with
    | func _ _ _ us vs h1 h2 =>
      have e1 : us = #[] := by simpa using h1
      have e2 : vs = #[] := by simpa using h2
      subst e1; subst e2; rfl
structure Bld (n : Nat) (ro bo fr : Mem) (Φ : Emb) (k : IntKind) (r : Nat) (e : Env) (ms : List Nat) (kvs : List (Int × CV)) (H : Heap) (a : Act) (w : World) : Prop where
  st : St n ro bo Φ e a
  ms : ∀ t ∈ ms, a.tmps[t]? = some (.map (some r))
  obj : ∃ es clock, Holds ro (fr.put r (.map es clock)) Φ H w ∧ es.toList.map (fun e => (e.key, e.val)) = kvs.map fun (i, c) => (Value.int k i, c.val)
  fr : fr r = none
theorem St.del {n : Nat} (h : St n ro bo Φ e a) {d : Nat} (hd : d < n) (u : Value) : St n ro bo Φ (e.del d) (a.put (some d) u) := by
  refine ⟨by simp [Act.put, h.size], by simpa [Act.put] using h.defers, fun t x ht => ?_⟩
  rw [Env.get_del] at ht
  split at ht
  · cases ht
  · rename_i hne
    obtain ⟨u', h1, h2⟩ := h.env t x ht
    exact ⟨u', by simp only [Act.put]; rw [Array.getElem?_setIfInBounds_ne (fun q => hne (by rw [q]))]; exact h1, h2⟩
end
end Go.Fw
namespace Go.Fw
namespace An
def bit (n : Nat) : Nat := 1 <<< n
def has (n s : Nat) : Bool := s ||| bit n == s
def mi (a b : Nat) : Nat := a ^^^ (a &&& b)
def enum : Nat → Nat → Nat → List Nat → List Nat
  | _, _, 0, l => l
  | 0, n, _ + 1, l => n :: l
  | k + 1, n, s + 1, l => enum k n ((s + 1) % (1 <<< (1 <<< k))) (enum k (n + (1 <<< k)) ((s + 1) >>> (1 <<< k)) l)
def ls (s : Nat) : List Nat := enum 9 0 s []
def ins (n : Nat) : List Nat → List Nat
  | [] => [n]
  | a :: l => bif n == a then a :: l else if n < a then n :: a :: l else a :: ins n l
def us : List Opd → List Nat → List Nat
  | [], s => s
  | .t n :: l, s => us l (ins n s)
  | .k _ :: l, s => us l s
def gu : Option (Nat × Bool) → List Nat → List Nat
  | none, s => s
  | some (g, _), s => ins g s
def dl : Option Nat → Nat
  | none => 0
  | some d => bit d
def dn : Option Nat → List Nat → List Nat
  | none, l => l
  | some d, l => ins d l
def set : List Nat → Nat
  | [] => 0
  | n :: l => bit n ||| set l
def sans (s : Nat) : List Nat → List Nat
  | [] => []
  | n :: l => bif has n s then sans s l else n :: sans s l
def opsD (out : Nat) : List DOper → Nat × List (DOper × List Nat)
  | [] => (out, [])
  | ⟨⟨d, g, o⟩, p, c⟩ :: l =>
    match opsD out l with
    | (s, l') => match gu g (us (opsI o) []) with
      | u => (set u ||| mi s (dl d), (⟨⟨d, g, o⟩, p, c⟩, sans s (dn d u)) :: l')
def toD : List IOper → List DOper
  | [] => []
  | o :: l => ⟨o, 0, []⟩ :: toD l
def liveD (out : Nat) : List DOper → Nat
  | [] => out
  | ⟨⟨d, g, o⟩, _, _⟩ :: l => set (gu g (us (opsI o) [])) ||| mi (liveD out l) (dl d)
def liveI (out : Nat) : List IOper → Nat
  | [] => out
  | ⟨d, g, o⟩ :: l => set (gu g (us (opsI o) [])) ||| mi (liveI out l) (dl d)
def varsI : List IOper → Nat
  | [] => 0
  | ⟨d, g, o⟩ :: l => dl d ||| (set (gu g (us (opsI o) [])) ||| varsI l)
def varsD : List DOper → Nat
  | [] => 0
  | ⟨⟨d, g, o⟩, _, _⟩ :: l => dl d ||| (set (gu g (us (opsI o) [])) ||| varsD l)
def exG (i : Nat) : List (Nat × Nat) → Nat
  | [] => 0
  | (j, s) :: l => bif i == j then s else exG i l
def fixN (f : Nat → Nat) : Nat → Nat → Nat
  | 0, s => s
  | n + 1, s => match f s with
    | t => bif t == s then s else fixN f n t
def uo : Opd → Nat
  | .t n => bit n
  | .k _ => 0
def live (res : Nat) : ICode → List (Nat × Nat) → Nat → Nat
  | .skip, _, out => out
  | .draw l, _, out => liveD out l
  | .drawP _ _ l, _, out => liveD out l
  | .reg l, _, out => liveI out l
  | .seq a b, x, out => live res a x (live res b x out)
  | .cond c a b, x, out => uo c ||| (live res a x out ||| live res b x out)
  | .block i c, x, out => live res c ((i, out) :: x) out
  | .loop c, x, _ => fixN (fun s => live res c x s ||| s) 20 0
  | .exit i, x, _ => exG i x
  | .ret, _, _ => res
def killL (c : KCode) : List Nat → List Nat → KCode
  | [], _ => c
  | k, keep => if keep.length < k.length then .keep keep c else .kill k c
def killK (out keep : Nat) (c : KCode) : KCode := bif out == 0 then c else killL c (ls out) (ls keep)
def plain : ICode → Bool
  | .reg _ | .draw _ | .drawP .. | .skip => true
  | .seq _ (.reg _) | .seq _ (.draw _) | .seq _ (.drawP ..) => true
  | _ => false
def inL (n : Nat) : List Nat → Bool
  | [] => false
  | a :: l => bif n == a then true else inL n l
def cutB (cs : List Nat) : ICode → Bool
  | .block i _ => inL i cs
  | .seq _ (.block i _) => inL i cs
  | _ => false
def lastN : List IOper → Option (List IOper × Nat × Bool × Opd)
  | [] => none
  | [⟨some d, none, .isNil g 1 x⟩] => some ([], d, g, x)
  | o :: l => match lastN l with
    | some (p, r) => some (o :: p, r)
    | none => none
structure Out where
  k : KCode
  live : Nat
  vars : Nat
def regK (nn : Bool) (out : Nat) (l : List IOper) : KCode :=
  match (bif nn then lastN l else none) with
  | some (pre, d, g, x) => match us [x] [] with
    | u => .regN (opsD (set u ||| mi out (bit d)) (toD pre)).2 d g x (sans out (ins d u))
  | none => .reg (opsD out (toD l)).2
def cnt : ICode → Nat
  | .reg _ | .draw _ | .drawP .. => 1
  | .seq a b | .cond _ a b => cnt a + cnt b
  | .block _ c | .loop c => cnt c
  | _ => 0
def ann (nn : Bool) (cs rs : List Nat) (res : Nat) : ICode → List (Nat × Nat) → Nat → Nat → Out
  | .skip, _, out, _ => ⟨.skip, out, 0⟩
  | .reg l, _, out, _ => ⟨regK nn out l, liveI out l, varsI l⟩
  | .draw l, _, out, _ => ⟨.draw (opsD out l).2, liveD out l, varsD l⟩
  | .drawP L m l, _, out, _ => ⟨.drawP L m (opsD out l).2, liveD out l, varsD l⟩
  | .seq a b, x, out, n => match n + cnt a with
    | m => match ann nn cs rs res b x out m with
      | ⟨kb, lb, vb⟩ => match ann nn cs rs res a x lb n with
        | ⟨ka, la, va⟩ => match (bif plain a then (bif inL (m - 1) rs then .cut kb else kb) else bif inL (1000 + n) rs then .cut (killK (mi (va ||| la) lb) lb kb) else killK (mi (va ||| la) lb) lb kb) with
          | kc => ⟨.seq ka (bif cutB cs a then .cut kc else kc), la, va ||| vb⟩
  | .cond c a b, x, out, n => match ann nn cs rs res a x out n, ann nn cs rs res b x out (n + cnt a) with
    | ⟨ka, la, va⟩, ⟨kb, lb, vb⟩ => match uo c ||| (la ||| lb) with
      | all => ⟨.cond c (killK (mi all la) la ka) (killK (mi all lb) lb kb), all, uo c ||| (va ||| vb)⟩
  | .block i c, x, out, n => match ann nn cs rs res c ((i, out) :: x) out n with
    | ⟨k, l, v⟩ => ⟨.block i k, l, v⟩
  | .loop c, x, _, n => match fixN (fun s => live res c x s ||| s) 20 0 with
    | s => match ann nn cs rs res c x s n with
      | ⟨k, _, v⟩ => ⟨.loop k, s, v⟩
  | .exit i, x, _, _ => ⟨.exit i, exG i x, 0⟩
  | .ret, _, _, _ => ⟨.ret, res, 0⟩
def resN : List IRes → Nat
  | [] => 0
  | .tmp t :: l => bit t ||| resN l
  | .cell t _ :: l => bit t ||| resN l
def look (j : Nat) : List (Nat × Nat) → Nat
  | [] => 0
  | (k, s) :: l => bif k == j then s else look j l
def anc1 (acc : List (Nat × Nat)) : List Nat → Nat
  | [] => 0
  | j :: l => (bit j ||| look j acc) ||| anc1 acc l
def draw (ops : Array Oper) (il : List IOper) : List Nat → List (Nat × Nat) → List Nat → List DOper
  | [], _, _ => []
  | i :: l, acc, rds => match il[i]? with
    | some ⟨d, g, o⟩ => match anc1 acc (edgesOf ops i) with
      | s => ⟨⟨d, g, o⟩, i, bif isHv o then sans s rds else []⟩ :: draw ops il l ((i, s) :: acc) (bif rdI o then i :: rds else rds)
    | none => []
def code (T : Tables) (n : Nat) (fl : List (Nat × Nat)) (od : List (Nat × List Nat)) : Code → ICode
  | .region id ops d => match lowOps ⟨T, #[]⟩ n fl id ops ops.toList 0 with
    | some l => bif d then (match lookL od (1000000 + id) with
        | [] => .draw (draw ops l (orderOf od id ops.size) [] [])
        | L :: is => match aftL L is 0 l with
          | some l' => .drawP L is.length (draw ops l' (orderOf od id ops.size) [] [])
          | none => .skip) else .reg l
    | none => .skip
  | .seq a b => .seq (code T n fl od a) (code T n fl od b)
  | .cond c a b => match lowO c with
    | some z => .cond z (code T n fl od a) (code T n fl od b)
    | none => .skip
  | .block id c => .block id (code T n fl od c)
  | .loop c => .loop (code T n fl od c)
  | .exit id => .exit id
  | .ret => .ret
  | _ => .skip
end An
def lowF (T : Tables) (f : Func) (fl : List (Nat × Nat)) (od : List (Nat × List Nat)) : ICode × Nat :=
  match f.body with
  | some c => match lowRes ⟨T, #[]⟩ f.results.toList with
    | some r => (An.code T f.ntmps fl od c, An.resN r)
    | none => (.skip, 0)
  | none => (.skip, 0)
def annF (nn : Bool) (cs rs : List Nat) : ICode × Nat → KCode
  | (b, s) => (An.ann nn cs rs s b [] s 0).k
end Go.Fw
