/-
  A frame for proofs about programs of the model, part 3.
-/
import Derived.Test.YthgibibeoapfbaaFwB
import Derived.ProofKit
import Derived.OpenShut
import Derived.SizedLaws
import Derived.ChangeOld
import Derived.Carry
import Derived.MapKept
set_option linter.unusedSimpArgs false
set_option linter.unnecessarySimpa false
set_option linter.unusedVariables false
set_option linter.unusedSectionVars false
/-
  What a law is called with: the reading of its arguments, as abstract values over memory that is only read.
-/
namespace Go.Fw
def memOf (w : World) : Mem := fun r => w.heap[r]?
def noEmb : Emb := fun _ => none
def VL (w : World) (xs : List AV) (cs : List Value) : Prop := xs.length = cs.length ∧ ∀ (j : Nat) (v : AV) (u : Value), xs[j]? = some v → cs[j]? = some u → VR (memOf w) noMem noEmb v u ∧ u.oneCell' = true
/-- Cells of a type. -/
def Fit (P : Program) : Nat → TypeId → List AV → Prop
  | 0, _, _ => False
  | n + 1, t, xs => match P.underlying t with
    | some .bool => ∃ b, xs = [.bool b]
    | some (.int k) => ∃ m, (Lit.int k m).wf = true ∧ xs = [.int k m]
    | some .string => ∃ l : List UInt8, l.length ≤ reachBytes ∧ xs = [.str l]
    | some (.pointer e) => xs = [.nil] ∨ ∃ ys, Fit P n e ys ∧ ys.length = P.cellsOf e ∧ xs = [.rptr false ys]
    | some (.slice e) => ∃ (nl full : Bool) (yss : List (List AV)), (nl = true → yss = []) ∧ yss.length * P.bytesOf e ≤ reachBytes ∧ yss.length ≤ maxLen ∧ (∀ y ∈ yss, Fit P n e y ∧ y.length = P.cellsOf e) ∧ xs = [.list (P.cellsOf e) ⟨nl, full, false⟩ yss.flatten]
    | some (.struct fs) => ∃ yss : List (List AV), yss.length = fs.size ∧ xs = yss.flatten ∧ ∀ (i : Nat) (f : Field) (y : List AV), fs[i]? = some f → yss[i]? = some y → Fit P n f.type y ∧ y.length = P.cellsOf f.type
    | some (.array m e) => ∃ yss : List (List AV), yss.length = m ∧ (∀ y ∈ yss, Fit P n e y ∧ y.length = P.cellsOf e) ∧ xs = yss.flatten
    | _ => False
def fldsOK (P : Program) (g : TypeId → Bool) (T : Nat) : List Field → Nat → Bool
  | [], o => decide (o = T)
  | f :: fs, o => decide (f.offset = o) && g f.type && fldsOK P g T fs (o + P.cellsOf f.type)
/-- Types that are read so. -/
def okT (P : Program) : Nat → TypeId → Bool
  | 0, _ => false
  | n + 1, t => match P.underlying t with
    | some .bool => true
    | some (.int _) => true
    | some .string => true
    | some (.pointer e) => okT P n e && decide (0 < P.cellsOf e)
    | some (.slice e) => okT P n e && decide (0 < P.cellsOf e)
    | some (.struct fs) => fldsOK P (okT P n) (P.cellsOf t) fs.toList 0
    | some (.array m e) => okT P n e && decide (P.cellsOf t = m * P.cellsOf e)
    | _ => false

section
variable {H : Type} {enc : TypeId × Value → H} {P : Program} {w : World}
theorem VL.append {a b : List AV} {c d : List Value} (h : VL w a c) (k : VL w b d) : VL w (a ++ b) (c ++ d) := by
  refine ⟨by simp [h.1, k.1], fun j v u hv hu => ?_⟩
  rw [List.getElem?_append] at hv hu
  rw [← h.1] at hu
  split at hv
  · rename_i hj; rw [if_pos hj] at hu; exact h.2 j v u hv hu
  · rename_i hj; rw [if_neg hj] at hu; exact k.2 _ v u hv hu
theorem VL.one {v : AV} {u : Value} (h : VR (memOf w) noMem noEmb v u) (ho : u.oneCell' = true) : VL w [v] [u] := ⟨rfl, fun j x y hx hy => by
  cases j with
  | zero => simp at hx hy; subst hx; subst hy; exact ⟨h, ho⟩
  | succ j => simp at hx⟩
theorem add_block (a : Addr) (n : Nat) : (a.add n).block = a.block := by unfold Addr.add; split <;> rfl
theorem add_off (a : Addr) (n : Nat) : (a.add n).off = a.off + n := by unfold Addr.add; split <;> simp_all
theorem cell_spec {a : Addr} {u : Value} (h : w.cell? a = some u) : ∃ c T fz, w.heap[a.block]? = some (.cells c T fz) ∧ a.spot = none ∧ c[a.off]? = some u := by
  unfold World.cell? at h
  split at h
  · rename_i c T fz hc
    split at h
    · cases h
    · rename_i hs
      exact ⟨c, T, fz, hc, by simpa using hs, h⟩
  · cases h
theorem cells_spec {a : Addr} {n : Nat} {cs : List Value} (h : w.cells? 0 a n = some cs) : cs.length = n ∧ ∀ i, i < n → ∃ u, cs[i]? = some u ∧ w.cell? (a.add i) = some u := by
  unfold World.cells? at h
  rw [if_pos (Nat.zero_le _)] at h
  have hl := mapM_some_length h
  simp at hl
  refine ⟨hl, fun i hi => ?_⟩
  have hg := mapM_some_get h i i (by simp [hi])
  obtain ⟨u, hu⟩ : ∃ u, cs[i]? = some u := ⟨cs[i]'(by omega), by simp⟩
  exact ⟨u, hu, by rw [hg]; exact hu⟩
theorem flds_le {g : TypeId → Bool} {T : Nat} : ∀ {fl : List Field} {o : Nat}, fldsOK P g T fl o = true → o ≤ T
  | [], o, h => by simp [fldsOK] at h; omega
  | f :: fl, o, h => by
    simp only [fldsOK, Bool.and_eq_true] at h
    have := flds_le h.2
    omega
theorem weightsAll_mem {e : TypeId} {q : Nat → Bool} : ∀ {ds : List (DataW H)}, (DataW.weightsAll P e ds).all q = true → ∀ d ∈ ds, (d.weights P e).all q = true
  | [], _, d, hd => by cases hd
  | x :: ds, h, d, hd => by
    simp only [DataW.weightsAll, List.all_append, Bool.and_eq_true] at h
    rcases List.mem_cons.1 hd with rfl | hd
    · exact h.1
    · exact weightsAll_mem h.2 d hd
theorem trod_array {n e fuel : Nat} {t : TypeId} {cs : List Value} {x : DataW H × List MemPlace} (ht : P.underlying t = some (.array n e)) (h : DataW.trod enc P w 0 (fun _ => true) true fuel t cs = some x) :
    ∃ (xs : List (DataW H × List MemPlace)) (m : Nat), x.1 = .agg (xs.map (·.1)) ∧ cs.length = P.cellsOf t ∧ xs.length = n ∧
      ∀ (i : Nat), i < n → DataW.trod enc P w 0 (fun _ => true) true m e ((cs.drop (i * P.cellsOf e)).take (P.cellsOf e)) = xs[i]? := by
  cases fuel with
  | zero => simp [DataW.trod] at h
  | succ m =>
    rw [DataW.trod_step] at h
    unfold DataW.trodStep at h
    rw [ht] at h
    simp only at h
    split at h
    · rename_i hl
      simp only [Option.map_eq_some_iff] at h
      obtain ⟨xs, hx, rfl⟩ := h
      exact ⟨xs, m, rfl, hl, by simpa using mapM_some_length hx, fun i hi => mapM_some_get hx i i (by simp [hi])⟩
    · cases h
theorem trod_fit : ∀ (m : Nat) (t : TypeId), okT P m t = true → ∀ (n : Nat) (cs : List Value) (x : DataW H × List MemPlace), DataW.trod enc P w 0 (fun _ => true) true n t cs = some x → (x.1.weights P t).all (· ≤ reachBytes) = true →
    ∃ xs, VL w xs cs ∧ Fit P m t xs := by
  intro m
  induction m with
  | zero => intro t h; simp [okT] at h
  | succ m ih =>
    intro t hok n cs x h hw
    simp only [okT] at hok
    cases hu : P.underlying t with
    | none => rw [hu] at hok; cases hok
    | some td =>
      rw [hu] at hok
      cases td <;> try (cases hok; done)
      case bool =>
        obtain ⟨b, rfl, rfl⟩ := DataW.trod_bool hu h
        exact ⟨[.bool b], VL.one (.bool b) rfl, by simp only [Fit, hu]; exact ⟨b, rfl⟩⟩
      case int k =>
        obtain ⟨z, rfl, rfl, hz⟩ := DataW.trod_int hu h
        exact ⟨[.int k z], VL.one (.int k z) rfl, by simp only [Fit, hu]; exact ⟨z, hz, rfl⟩⟩
      case string =>
        obtain ⟨s, rfl, rfl, hs⟩ := DataW.trod_string hu h
        refine ⟨[.str s.data.toList], VL.one (.str _ s rfl) rfl, ?_⟩
        simp only [Fit, hu]
        refine ⟨_, ?_, rfl⟩
        simpa [DataW.weights] using hw
      case pointer e =>
        simp only [Bool.and_eq_true, decide_eq_true_eq] at hok
        rcases DataW.trod_pointer hu h with ⟨rfl, rfl⟩ | ⟨a, cs', y, n', rfl, rfl, rfl, hc, hy⟩
        · exact ⟨[.nil], VL.one .nil rfl, by simp only [Fit, hu]; exact .inl trivial⟩
        · have hw' : (y.1.weights P e).all (· ≤ reachBytes) = true := by simpa [DataW.weights, hu] using hw
          obtain ⟨ys, hV, hF⟩ := ih e hok.1 n' cs' y hy hw'
          obtain ⟨hl, hcl⟩ := cells_spec hc
          obtain ⟨u0, hu0, hc0⟩ := hcl 0 hok.2
          obtain ⟨c, T, fz, g1, g2, g3⟩ := cell_spec hc0
          rw [add_block] at g1
          have hsp : a.spot = none := by simpa [Addr.add] using g2
          have hcells : ∀ j, j < P.cellsOf e → c[a.off + j]? = cs'[j]? := fun j hj => by
            obtain ⟨u, h1, h2⟩ := hcl j hj
            obtain ⟨c', T', fz', k1, _, k3⟩ := cell_spec h2
            rw [add_block, g1] at k1
            cases k1
            rw [add_off] at k3
            rw [k3, h1]
          obtain ⟨ab, ao, asp⟩ := a
          simp only at hsp
          subst hsp
          refine ⟨[.rptr false ys], VL.one (.rptr false ys ab ao c T fz (.inl g1) ?_ (fun j v u hv hu => ?_) (fun j u hj hu => ?_)) rfl, by simp only [Fit, hu]; exact .inr ⟨ys, hF, by rw [hV.1, hl], rfl⟩⟩
          · have : c[ao + (P.cellsOf e - 1)]? = cs'[P.cellsOf e - 1]? := hcells _ (by omega)
            have h1 : P.cellsOf e - 1 < cs'.length := by omega
            rw [List.getElem?_eq_getElem h1] at this
            have := (Array.getElem?_eq_some_iff.1 this).1
            rw [hV.1, hl]; omega
          · have hj : j < P.cellsOf e := by have := (List.getElem?_eq_some_iff.1 hv).1; rw [hV.1, hl] at this; exact this
            have : c[ao + j]? = cs'[j]? := hcells j hj
            rw [this] at hu
            exact (hV.2 j v u hv hu).1
          · have hj' : j < P.cellsOf e := by rw [hV.1, hl] at hj; exact hj
            have : c[ao + j]? = cs'[j]? := hcells j hj'
            rw [this] at hu
            exact (hV.2 j (ys[j]'hj) u (by simp) hu).2
      case slice e =>
        simp only [Bool.and_eq_true, decide_eq_true_eq] at hok
        rcases DataW.trod_slice hu h with ⟨rfl, rfl⟩ | ⟨a, len, cap, elems, rest, n', rfl, rfl, rfl, _, hlc, hcm, hel, hele, _, _⟩
        · exact ⟨[.list (P.cellsOf e) ⟨true, true, false⟩ []], VL.one (.listNil _ _ hok.2) rfl, by
            simp only [Fit, hu]; exact ⟨true, true, [], fun _ => rfl, by simp, by simp, by simp, rfl⟩⟩
        · have hw' : (elems.length + rest.length) * P.bytesOf e ≤ reachBytes ∧ (DataW.weightsAll P e (elems.map (·.1))).all (· ≤ reachBytes) = true := by
            simp only [DataW.weights, hu, List.all_cons, List.all_append, Bool.and_eq_true, decide_eq_true_eq, List.length_map] at hw
            exact ⟨hw.1, hw.2.1⟩
          -- an element
          have one : ∀ i, i < len → ∃ cs' ys, w.cells? 0 (a.add (i * P.cellsOf e)) (P.cellsOf e) = some cs' ∧ VL w ys cs' ∧ Fit P m e ys ∧ ys.length = P.cellsOf e := fun i hi => by
            have hg := hele i hi
            obtain ⟨y, hy⟩ : ∃ y, elems[i]? = some y := ⟨elems[i]'(by omega), by simp⟩
            rw [hy] at hg
            obtain ⟨cs', h1, h2⟩ := Option.bind_eq_some_iff.1 hg
            obtain ⟨ys, hV, hF⟩ := ih e hok.1 n' cs' y h2 (weightsAll_mem hw'.2 _ (List.mem_map.2 ⟨y, List.mem_of_getElem? hy, rfl⟩))
            exact ⟨cs', ys, h1, hV, hF, by rw [hV.1, (cells_spec h1).1]⟩
          by_cases hl0 : len = 0
          · subst hl0
            refine ⟨[.list (P.cellsOf e) ⟨false, decide (cap = 0), false⟩ []], VL.one (.list _ _ [] a.block a.off 0 cap #[] 0 (0, 0) hok.2 rfl (by simp) (Nat.zero_le _) (fun k => by simpa using k) (fun k => absurd rfl k) (fun k => absurd rfl k) (by simp) (by simp) a.spot (fun k => absurd rfl k)) rfl, ?_⟩
            simp only [Fit, hu]
            exact ⟨false, _, [], by simp, by simp, by simp, by simp, rfl⟩
          · obtain ⟨cs0, ys0, q1, _⟩ := one 0 (by omega)
            obtain ⟨hl, hcl⟩ := cells_spec q1
            obtain ⟨u0, hu0, hc0⟩ := hcl 0 hok.2
            obtain ⟨c, T, fz, g1, g2, g3⟩ := cell_spec hc0
            rw [add_block, add_block] at g1
            have hsp : a.spot = none := by simpa [Addr.add] using g2
            have row : ∀ k, k ≤ len → ∃ yss : List (List AV), yss.length = k ∧ (∀ y ∈ yss, Fit P m e y ∧ y.length = P.cellsOf e) ∧ yss.flatten.length = k * P.cellsOf e ∧ (0 < k → a.off + k * P.cellsOf e ≤ c.size) ∧
                ∀ (j : Nat) (v : AV) (u : Value), yss.flatten[j]? = some v → c[a.off + j]? = some u → VR (memOf w) noMem noEmb v u ∧ u.oneCell' = true := by
              intro k
              induction k with
              | zero => intro _; exact ⟨[], rfl, by simp, by simp, by simp, by simp⟩
              | succ k ihk =>
                intro hk
                obtain ⟨yss, r1, r2, r3, r4, r5⟩ := ihk (by omega)
                obtain ⟨cs', ys, s1, s2, s3, s4⟩ := one k (by omega)
                obtain ⟨hl', hcl'⟩ := cells_spec s1
                have hcells : ∀ j, j < P.cellsOf e → c[a.off + k * P.cellsOf e + j]? = cs'[j]? := fun j hj => by
                  obtain ⟨u, h1, h2⟩ := hcl' j hj
                  obtain ⟨c', T', fz', k1, _, k3⟩ := cell_spec h2
                  rw [add_block, add_block, g1] at k1
                  cases k1
                  rw [add_off, add_off] at k3
                  rw [k3, h1]
                refine ⟨yss ++ [ys], by simp [r1], fun y hy => ?_, by simp [r3, s4, Nat.add_mul], fun _ => ?_, fun j v u hv hu => ?_⟩
                · rcases List.mem_append.1 hy with q | q
                  · exact r2 y q
                  · simp at q; subst q; exact ⟨s3, s4⟩
                · have hlast := hcells (P.cellsOf e - 1) (by omega)
                  rw [List.getElem?_eq_getElem (show P.cellsOf e - 1 < cs'.length by omega)] at hlast
                  have := (Array.getElem?_eq_some_iff.1 hlast).1
                  rw [Nat.add_mul, Nat.one_mul]; omega
                · rw [List.flatten_append, List.getElem?_append, r3] at hv
                  split at hv
                  · exact r5 j v u hv hu
                  · rename_i hj
                    simp only [List.flatten_cons, List.flatten_nil, List.append_nil] at hv
                    have hlt : j - k * P.cellsOf e < P.cellsOf e := by have := (List.getElem?_eq_some_iff.1 hv).1; omega
                    have := hcells _ hlt
                    rw [show a.off + k * P.cellsOf e + (j - k * P.cellsOf e) = a.off + j by omega] at this
                    rw [this] at hu
                    exact s2.2 _ v u hv hu
            obtain ⟨yss, r1, r2, r3, r4, r5⟩ := row len (Nat.le_refl _)
            obtain ⟨ab, ao, asp⟩ := a
            simp only at hsp
            subst hsp
            refine ⟨[.list (P.cellsOf e) ⟨false, decide (cap = len), false⟩ yss.flatten], VL.one (.list _ _ _ ab ao len cap c T fz hok.2 rfl r3 hlc (fun k => by simpa using k) (fun _ => .inl g1) (fun _ => by rw [r3]; exact r4 (by omega)) (fun j v u hv hu => (r5 j v u hv hu).1) (fun j u hj hu => (r5 j (yss.flatten[j]'hj) u (by simp) hu).2) none (fun _ => rfl)) rfl, ?_⟩
            simp only [Fit, hu]
            refine ⟨false, _, yss, by simp, ?_, by omega, r2, rfl⟩
            have : yss.length * P.bytesOf e ≤ (elems.length + rest.length) * P.bytesOf e := Nat.mul_le_mul_right _ (by omega)
            omega
      case struct fs =>
        obtain ⟨ys, n', rfl, rfl, hl, hyl, hys⟩ := DataW.trod_struct hu h
        have hw' : (DataW.weightsEach P (fs.toList.map (·.type)) (ys.map (·.1))).all (· ≤ reachBytes) = true := by simpa [DataW.weights, hu] using hw
        have key : ∀ (fl : List Field) (zs : List (DataW H × List MemPlace)) (o : Nat), fldsOK P (okT P m) (P.cellsOf t) fl o = true → (∀ (i : Nat) (f : Field), fl[i]? = some f → DataW.trod enc P w 0 (fun _ => true) true n' f.type ((cs.drop f.offset).take (P.cellsOf f.type)) = zs[i]?) →
            zs.length = fl.length → (DataW.weightsEach P (fl.map (·.type)) (zs.map (·.1))).all (· ≤ reachBytes) = true →
            ∃ yss : List (List AV), yss.length = fl.length ∧ VL w yss.flatten (cs.drop o) ∧ ∀ (i : Nat) (f : Field) (y : List AV), fl[i]? = some f → yss[i]? = some y → Fit P m f.type y ∧ y.length = P.cellsOf f.type := by
          intro fl
          induction fl with
          | nil =>
            intro zs o hf _ _ _
            simp [fldsOK] at hf
            refine ⟨[], rfl, ?_, by simp⟩
            rw [List.drop_eq_nil_of_le (by omega)]
            exact ⟨rfl, by simp⟩
          | cons f fl ihf =>
            intro zs o hf hz hzl hwz
            have hle := hf
            simp only [fldsOK, Bool.and_eq_true, decide_eq_true_eq] at hf
            obtain ⟨⟨rfl, hg⟩, hrest⟩ := hf
            cases zs with
            | nil => simp at hzl
            | cons z zs =>
              simp only [List.map_cons, DataW.weightsEach, List.all_append, Bool.and_eq_true] at hwz
              obtain ⟨ys1, hV, hF⟩ := ih f.type hg n' _ z (by have := hz 0 f rfl; simpa using this) hwz.1
              obtain ⟨yss, s1, s2, s3⟩ := ihf zs _ hrest (fun i f' hi => by have := hz (i + 1) f' (by simpa using hi); simpa using this) (by simpa using hzl) hwz.2
              have hcl := flds_le hrest
              refine ⟨ys1 :: yss, by simp [s1], ?_, fun i f' y hi hy => ?_⟩
              · have := hV.append s2
                rw [← List.drop_drop, List.take_append_drop] at this
                simpa using this
              · cases i with
                | zero =>
                  simp at hi hy; subst hi; subst hy
                  refine ⟨hF, ?_⟩
                  rw [hV.1, List.length_take, List.length_drop, hl]; omega
                | succ i => exact s3 i f' y (by simpa using hi) (by simpa using hy)
        obtain ⟨yss, s1, s2, s3⟩ := key fs.toList ys 0 hok (fun i f hi => hys i f (by simpa using hi)) (by simpa using hyl) hw'
        refine ⟨yss.flatten, by simpa using s2, ?_⟩
        simp only [Fit, hu]
        exact ⟨yss, by simpa using s1, rfl, fun i f y hi hy => s3 i f y (by simpa using hi) hy⟩
      case array k e =>
        simp only [Bool.and_eq_true, decide_eq_true_eq] at hok
        obtain ⟨ys, n', hx, hl, hyl, hys⟩ := trod_array hu h
        have hw' : (DataW.weightsAll P e (ys.map (·.1))).all (· ≤ reachBytes) = true := by rw [hx] at hw; simpa [DataW.weights, hu] using hw
        have key : ∀ j, j ≤ k → ∃ yss : List (List AV), yss.length = j ∧ (∀ y ∈ yss, Fit P m e y ∧ y.length = P.cellsOf e) ∧ VL w yss.flatten (cs.take (j * P.cellsOf e)) := by
          intro j
          induction j with
          | zero => intro _; exact ⟨[], rfl, by simp, by simp, by simp⟩
          | succ j ihj =>
            intro hj
            obtain ⟨yss, r1, r2, r3⟩ := ihj (by omega)
            obtain ⟨y, hy⟩ : ∃ y, ys[j]? = some y := ⟨ys[j]'(by omega), by simp⟩
            obtain ⟨ys1, hV, hF⟩ := ih e hok.1 n' _ y (by rw [hys j (by omega)]; exact hy) (weightsAll_mem hw' _ (List.mem_map.2 ⟨y, List.mem_of_getElem? hy, rfl⟩))
            have hle : (j + 1) * P.cellsOf e ≤ k * P.cellsOf e := Nat.mul_le_mul_right _ hj
            rw [Nat.add_mul, Nat.one_mul] at hle
            refine ⟨yss ++ [ys1], by simp [r1], fun z hz => ?_, ?_⟩
            · rcases List.mem_append.1 hz with q | q
              · exact r2 z q
              · simp at q; subst q
                refine ⟨hF, ?_⟩
                rw [hV.1, List.length_take, List.length_drop, hl, hok.2]; omega
            · have := r3.append hV
              rw [List.flatten_append, Nat.add_mul, Nat.one_mul, List.take_add]
              simpa using this
        obtain ⟨yss, r1, r2, r3⟩ := key k (Nat.le_refl _)
        refine ⟨yss.flatten, ?_, by simp only [Fit, hu]; exact ⟨yss, r1, r2, rfl⟩⟩
        rw [List.take_of_length_le (by rw [hl, hok.2]; omega)] at r3
        exact r3
end
end Go.Fw

/-
  A law's row, out of a contract of its function: called with whatever fits, it returns true, and turns no block that was there.
-/
namespace Go.Fw
open Go.ChangeShapes Go.WideShapes Go.RowKit
def ArgFit (P : Program) (m : Nat) (t : TypeId) (a : AV) : Prop := match P.underlying t with
  | some (.struct _) => ∃ xs, a = .agg xs ∧ Fit P m t xs
  | some (.array _ _) => ∃ xs, a = .agg xs ∧ Fit P m t xs
  | _ => Fit P m t [a]
def AllFit (P : Program) (m : Nat) : List TypeId → List AV → Prop
  | [], as => as = []
  | t :: ts, as => ∃ a as', as = a :: as' ∧ ArgFit P m t a ∧ AllFit P m ts as'
section
variable {H : Type} {enc : TypeId × Value → H} {P : Program} {w : World}
theorem arg_fit {m : Nat} {t : TypeId} {v : Value} {d : DataW H} {ps : List MemPlace} {r : Reach} {b : Nat} (hok : okT P m t = true) (hval : Value.okWide P w r b t v) (h : DataW.Trod enc P w 0 (fun _ => true) true t v d ps) (hw : (d.weights P t).all (· ≤ reachBytes) = true) :
    ∃ a, VR (memOf w) noMem noEmb a v ∧ ArgFit P m t a := by
  obtain ⟨n, hn⟩ := h
  obtain ⟨xs, hV, hF⟩ := trod_fit m t hok n _ _ hn hw
  have agg : ∀ cs, v = .agg cs → VR (memOf w) noMem noEmb (.agg xs) v := by
    rintro cs rfl
    refine .agg xs cs (by simpa [Value.cells] using hV.1.symm) (fun j x u hx hu => (hV.2 j x u hx (by simpa [Value.cells] using hu)).1) (fun j u hu => ?_)
    have hj : j < xs.length := by have := (Array.getElem?_eq_some_iff.1 hu).1; rw [hV.1]; simpa [Value.cells] using this
    exact (hV.2 j xs[j] u (by simp) (by simpa [Value.cells] using hu)).2
  unfold ArgFit
  unfold Value.okWide at hval
  split
  · rename_i fs hu
    rw [hu] at hval
    obtain ⟨cs, hcs, _⟩ := hval
    exact ⟨_, agg cs hcs, xs, rfl, hF⟩
  · rename_i k e hu
    rw [hu] at hval
    obtain ⟨cs, hcs, _⟩ := hval
    exact ⟨_, agg cs hcs, xs, rfl, hF⟩
  · rename_i h1 h2
    have hc : v.cells.toList = [v] := by
      have hone : v.oneCell' = true := by
        split at hval
        · rename_i hu; exact absurd hu (h1 _)
        · rename_i hu; exact absurd hu (h2 _ _)
        · cases v <;> first | rfl | (exfalso; unfold Cell.okWide at hval; split at hval <;> first | (simp at *; done) | (unfold Cell.ok at hval; split at hval <;> simp_all))
      cases v <;> first | rfl | cases hone
    rw [hc] at hV
    obtain ⟨x, rfl⟩ : ∃ x, xs = [x] := by
      have := hV.1
      match xs, this with
      | [x], _ => exact ⟨x, rfl⟩
    exact ⟨x, (hV.2 0 x v rfl rfl).1, hF⟩
theorem args_fit {m : Nat} : ∀ {ts : List TypeId} {vs : List Value} {ds : List (DataW H)} {ps : List MemPlace}, ts.all (okT P m) = true → (∀ (j : Nat) (t : TypeId) (v : Value), ts[j]? = some t → vs[j]? = some v → ∃ r b, Value.okWide P w r b t v) →
    DataW.TrodAll enc P w 0 (fun _ => true) true ts vs ds ps → (DataW.weightsEach P ts ds).all (· ≤ reachBytes) = true →
    ∃ as, as.length = vs.length ∧ (∀ (j : Nat) (a : AV) (v : Value), as[j]? = some a → vs[j]? = some v → VR (memOf w) noMem noEmb a v) ∧ AllFit P m ts as := by
  intro ts
  induction ts with
  | nil =>
    intro vs ds ps _ _ hA _
    obtain ⟨rfl, rfl, rfl⟩ := trodAll_nil hA
    exact ⟨[], rfl, by simp, rfl⟩
  | cons t ts ih =>
    intro vs ds ps hok hval hA hw
    obtain ⟨v, vs', d, ds', p, q, rfl, rfl, rfl, h1, h2⟩ := trodAll_cons hA
    simp only [List.all_cons, Bool.and_eq_true] at hok
    simp only [DataW.weightsEach, List.all_append, Bool.and_eq_true] at hw
    obtain ⟨r, b, hv⟩ := hval 0 t v rfl rfl
    obtain ⟨a, g1, g2⟩ := arg_fit hok.1 hv h1 hw.1
    obtain ⟨as, k1, k2, k3⟩ := ih hok.2 (fun j t' v' ht hv => hval (j + 1) t' v' (by simpa using ht) (by simpa using hv)) h2 hw.2
    refine ⟨a :: as, by simp [k1], fun j x u hx hu => ?_, a, as, rfl, g2, k3⟩
    cases j with
    | zero => simp at hx hu; subst hx; subst hu; exact g1
    | succ j => exact k2 j x u (by simpa using hx) (by simpa using hu)
theorem law_calls {f : FuncId} {args : Array Value} {as : List AV} (hok : okFn P f = true) (hs : FSpec P f as [] (.bool true) []) (hl : as.length = args.toList.length) (hV : ∀ (j : Nat) (a : AV) (v : Value), as[j]? = some a → args.toList[j]? = some v → VR (memOf w) noMem noEmb a v) :
    Calls P f args w fun e w' => e = .returned (.bool true) ∧ Below w.heap.size w w' := by
  have hH : Holds (memOf w) noMem noEmb [] w := ⟨fun r o h => h, fun r o h => (by cases h), fun i b h => (by simp at h), fun i j b c r p q h => (by simp at h), fun i b r p h => (by simp at h), fun i p h => (by cases h), fun r o h => rfl⟩
  have hc := hs (memOf w) noMem noMem noEmb w args (by simpa using hl.symm) (fun j a v ha hv => hV j a v ha (by simpa using hv)) hH (Mem.le_refl _)
  rcases hc with ⟨_, hc⟩ | ⟨u, w', h1, _⟩
  rotate_left
  · rw [callFunc_run hok] at h1; cases h1
  refine Calls.mono hc ?_
  rintro e w' ⟨u, ro', Φ', rfl, g1, g2, g3, g4, g5⟩
  cases g1
  refine ⟨rfl, g5.os, g5.tape, g5.output, g5.size, fun k hk => ?_⟩
  have hk' : w.heap[k]? = some w.heap[k] := by simp [hk]
  rw [hk']
  exact g2.hro k _ (g3 k _ hk')
theorem trodAll_back (hl : laidOutB P = true) {w' : World} (hb : Below w.heap.size w w') : ∀ {ts : List TypeId} {vs : List Value} {ds : List (DataW H)} {ps : List MemPlace}, ts.all (fun t => P.readableRec t && decide (t < P.types.size)) = true →
    DataW.TrodAll enc P w 0 (fun _ => true) true ts vs ds ps → DataW.TrodAll enc P w' 0 (fun b => decide (b < w.heap.size)) true ts vs ds ps := by
  intro ts
  induction ts with
  | nil =>
    intro vs ds ps _ hA
    obtain ⟨rfl, rfl, rfl⟩ := trodAll_nil hA
    exact rfl
  | cons t ts ih =>
    intro vs ds ps hr hA
    obtain ⟨v, vs', d, ds', p, q, rfl, rfl, rfl, h1, h2⟩ := trodAll_cons hA
    simp only [List.all_cons, Bool.and_eq_true, decide_eq_true_eq] at hr
    refine ⟨p, q, Below.trod hl hr.1.1 hr.1.2 h1 hb (fun x hx => ?_), ih hr.2 h2, rfl⟩
    obtain ⟨n, hn⟩ := h1
    exact DataW.trod_lt n _ _ _ hn x hx
theorem trodAll_len : ∀ {ts : List TypeId} {vs : List Value} {ds : List (DataW H)} {ps : List MemPlace} {sp : Nat → Bool} {b : Nat} {hd : Bool}, DataW.TrodAll enc P w b sp hd ts vs ds ps → ds.length = ts.length
  | [], vs, ds, ps, sp, b, hd, h => by obtain ⟨rfl, rfl, rfl⟩ := trodAll_nil h; rfl
  | t :: ts, vs, ds, ps, sp, b, hd, h => by
    obtain ⟨v, vs', d, ds', p, q, rfl, rfl, rfl, h1, h2⟩ := trodAll_cons h
    simp [trodAll_len h2]
end
/-- The row of a law. -/
theorem law_lifted {C : Checked} {os : Os} {f : FuncId} {fn : Func} {s : ChangeSpec} {rt : TypeId} {m : Nat} {H : Type} {enc : TypeId × Value → H} (own : ownKnob C.prog.godebug = none) (started : os.Started) (noInit : C.prog.inits.idxOf? f = none) (hfn : C.prog.funcs[f]? = some fn)
    (witness : ∃ (w : World) (tape : Tape) (i : Input), w.os = os ∧ (w.forCall tape i).Shaped C.prog ∧ i.vars = [] ∧ Input.okWide C.prog (w.forCall tape i) .any w.heap.size f i ∧
      s.pre6 enc C.prog fn [] false (w.forCall tape i).memory i.args ∧ Assume.holds {} C.prog (lone (Frame.enter C.prog f i.args .normal) [] (w.forCall tape i)))
    (laid : laidOutB C.prog = true) (hv : s.vars = []) (hsf : ∀ ds : List (DataW H), ds.length = fn.params.toList.length → s.fn H ds = { results := [.lit (.bool true)], args := ds })
    (hts : fn.params.toList.all (okT C.prog m) = true) (hread : fn.params.toList.all (fun t => C.prog.readableRec t && decide (t < C.prog.types.size)) = true) (hrt : fn.resultTypes = #[rt]) (hrb : C.prog.underlying rt = some .bool)
    (hok : okFn C.prog f = true) (spec : ∀ as, AllFit C.prog m fn.params.toList as → FSpec C.prog f as [] (.bool true) []) :
    ReturnsInHanded {} C os f .any (s.pre6 enc C.prog fn [] false) (s.post enc C.prog fn false true false false) := by
  refine returnsInHanded_of_change_sized own started noInit hfn witness ?_
  intro W base args ds gs before hval hW hcnd hsz _
  have hW' := hW
  obtain ⟨p, q, hA, hV, rfl, hfz, hnd⟩ := hW
  rw [hv] at hV
  obtain ⟨rfl, rfl⟩ := trodVars_none hV
  have hvt : s.plain.varTypes C.prog = [] := by unfold DataSpec.varTypes; simp [ChangeSpec.plain, hv]
  rw [hvt, List.append_nil, List.append_nil] at hsz
  obtain ⟨as, k1, k2, k3⟩ := args_fit hts (fun j t v ht hv' => ⟨.any, base, hval j t v (by simpa using ht) (by simpa using hv')⟩) hA hsz
  refine (law_calls hok (spec as k3) k1 k2).mono fun e W' ⟨he, bel⟩ => ?_
  subst he
  have hlen := trodAll_len hA
  refine ⟨_, rfl, ds, [], _, [], p, [], hW', ?_, ?_, ?_, ?_, fun h => by cases h⟩
  · rw [List.append_nil, hsf ds hlen, hrt]
    exact trodAll_mk1 (shut_bool hrb _)
  · rw [List.append_nil, hsf ds hlen]
    exact trodAll_back laid bel hread hA
  · rw [hv, List.append_nil, hsf ds hlen]; exact rfl
  · exact bel.frame _
end Go.Fw

/-
  What arguments of laws are, read as lists and numbers.
-/
namespace Go.Fw
section
variable {P : Program} {n : Nat} {t e : TypeId} {a : AV} {xs : List AV}
theorem fit_u8 (h : P.underlying t = some (.int .u8)) (hf : Fit P (n + 1) t xs) : ∃ b : UInt8, xs = [bv b] := by
  simp only [Fit, h] at hf
  obtain ⟨m, hm, rfl⟩ := hf
  have hm : 0 ≤ m ∧ m < 256 := by
    simp [Lit.wf, IntKind.min, IntKind.max, IntKind.signed, IntKind.bits] at hm
    omega
  refine ⟨UInt8.ofNat m.toNat, ?_⟩
  simp only [bv, List.cons.injEq, AV.int.injEq, true_and, and_true]
  rw [UInt8.toNat_ofNat_of_lt' (by show m.toNat < 256; omega)]
  omega
theorem flat_of {α : Type} {enc : α → List AV} : ∀ {yss : List (List AV)}, (∀ y ∈ yss, ∃ x, y = enc x) → ∃ l : List α, yss.flatten = l.flatMap enc ∧ l.length = yss.length
  | [], _ => ⟨[], rfl, rfl⟩
  | y :: yss, h => by
    obtain ⟨x, rfl⟩ := h y (by simp)
    obtain ⟨l, h1, h2⟩ := flat_of (yss := yss) fun z hz => h z (by simp [hz])
    exact ⟨x :: l, by simp [h1], by simp [h2]⟩
/-- A slice, by what its elements are. -/
theorem fit_slice {α : Type} (enc : α → List AV) (h : P.underlying t = some (.slice e)) (hd : ∀ y, Fit P n e y → ∃ x, y = enc x) (hf : Fit P (n + 1) t [a]) :
    ∃ (nl full : Bool) (l : List α), a = .list (P.cellsOf e) ⟨nl, full, false⟩ (l.flatMap enc) ∧ l.length * P.bytesOf e ≤ 140737488351232 := by
  simp only [Fit, h] at hf
  obtain ⟨nl, full, yss, _, h2, h3, h4, h5⟩ := hf
  obtain ⟨l, g1, g2⟩ := flat_of (enc := enc) (yss := yss) fun y hy => hd y (h4 y hy).1
  exact ⟨nl, full, l, by rw [← g1]; simpa using h5, by rw [g2]; exact h2⟩
theorem flatMap_bv (l : List UInt8) : l.flatMap (fun b => [bv b]) = l.map bv := by
  induction l with
  | nil => rfl
  | cons x l ih => simp [ih]
theorem fit_bytes (h : P.underlying t = some (.slice e)) (h8 : P.underlying e = some (.int .u8)) (hc : P.cellsOf e = 1) (hb : P.bytesOf e = 1) (hf : Fit P (n + 2) t [a]) : ∃ (nl full : Bool) (l : List UInt8), a = .list 1 ⟨nl, full, false⟩ (l.map bv) ∧ l.length < 2 ^ 47 := by
  obtain ⟨nl, full, l, h1, h2⟩ := fit_slice (fun b => [bv b]) h (fun y hy => fit_u8 h8 hy) hf
  rw [flatMap_bv, hc] at h1
  rw [hb] at h2
  exact ⟨nl, full, l, h1, by omega⟩
theorem arg_one (h : (match P.underlying t with | some (.struct _) => false | some (.array _ _) => false | _ => true) = true) {m : Nat} (hf : ArgFit P m t a) : Fit P m t [a] := by
  unfold ArgFit at hf
  split at hf <;> simp_all
theorem arg_bytes (h : P.underlying t = some (.slice e)) (h8 : P.underlying e = some (.int .u8)) (hc : P.cellsOf e = 1) (hb : P.bytesOf e = 1) (hf : ArgFit P (n + 2) t a) : ∃ (nl full : Bool) (l : List UInt8), a = .list 1 ⟨nl, full, false⟩ (l.map bv) ∧ l.length < 2 ^ 47 :=
  fit_bytes h h8 hc hb (arg_one (by rw [h]) hf)
theorem all_nil {m : Nat} {as : List AV} (h : AllFit P m [] as) : as = [] := h
theorem all_cons {m : Nat} {ts : List TypeId} {as : List AV} (h : AllFit P m (t :: ts) as) : ∃ a as', as = a :: as' ∧ ArgFit P m t a ∧ AllFit P m ts as' := h
theorem fit_array {m : Nat} (h : P.underlying t = some (.array m e)) (hf : Fit P (n + 1) t xs) : ∃ yss : List (List AV), yss.length = m ∧ (∀ y ∈ yss, Fit P n e y) ∧ xs = yss.flatten := by
  simp only [Fit, h] at hf
  obtain ⟨yss, h1, h2, h3⟩ := hf
  exact ⟨yss, h1, fun y hy => (h2 y hy).1, h3⟩
theorem arg_array {k m : Nat} (h : P.underlying t = some (.array k e)) (hf : ArgFit P (m + 1) t a) : ∃ yss : List (List AV), a = .agg yss.flatten ∧ yss.length = k ∧ (∀ y ∈ yss, Fit P m e y) := by
  simp only [ArgFit, h] at hf
  obtain ⟨xs, rfl, hf⟩ := hf
  obtain ⟨yss, h1, h2, rfl⟩ := fit_array h hf
  exact ⟨yss, rfl, h1, h2⟩
end
end Go.Fw

/-
  Functions that make a map of constants, and yield it.
-/
namespace Go.Fw

section
variable {P : Program} {ro bo fr : Mem} {Φ : Emb} {e : Env} {H : Heap} {a : Act} {w w' : World}
theorem CV.inv {c : CV} {u : Value} (h : VR ro bo Φ c.av u) : u = c.val := by
  cases c with
  | int k n => exact h.int_inv
  | ints l =>
    cases h with
    | agg _ cs h1 hx ho =>
      simp only [CV.val]
      congr 1
      apply Array.ext
      · simpa using h1
      · intro i g1 g2
        have hi : i < l.length := by simpa using g2
        have := hx i (.int l[i].1 l[i].2) cs[i] (by simp [hi]) (by simp [g1])
        simpa using this.int_inv
  | func f =>
    cases h with
    | func _ _ _ us vs h1 h2 =>
      have e1 : us = #[] := by simpa using h1
      have e2 : vs = #[] := by simpa using h2
      subst e1; subst e2; rfl
/-- A map that is being made: it lies in block 'r'. -/
structure Bld (n : Nat) (ro bo fr : Mem) (Φ : Emb) (k : IntKind) (r : Nat) (e : Env) (ms : List Nat) (kvs : List (Int × CV)) (H : Heap) (a : Act) (w : World) : Prop where
  st : St n ro bo Φ e a
  ms : ∀ t ∈ ms, a.tmps[t]? = some (.map (some r))
  obj : ∃ es clock, Holds ro (fr.put r (.map es clock)) Φ H w ∧ es.toList.map (fun e => (e.key, e.val)) = kvs.map fun (i, c) => (Value.int k i, c.val)
  fr : fr r = none
theorem St.del {n : Nat} (h : St n ro bo Φ e a) {d : Nat} (hd : d < n) (u : Value) : St n ro bo Φ (e.del d) (a.put (some d) u) := by
  refine ⟨by simp [Act.put, h.size], by simpa [Act.put] using h.defers, fun t x ht => ?_⟩
  rw [Env.get_del] at ht
  split at ht
  · cases ht
  · rename_i hne
    obtain ⟨u', h1, h2⟩ := h.env t x ht
    exact ⟨u', by simp only [Act.put]; rw [Array.getElem?_setIfInBounds_ne (fun q => hne (by rw [q]))]; exact h1, h2⟩
end
end Go.Fw
