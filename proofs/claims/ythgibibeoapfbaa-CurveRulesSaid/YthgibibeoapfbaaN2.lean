/-
  Arrays of numbers, told by what lies at each place.
-/
import Derived.Test.YthgibibeoapfbaaN1
set_option linter.unusedSimpArgs false
set_option linter.unnecessarySimpa false
set_option linter.unusedVariables false
set_option linter.unusedSectionVars false
namespace Go.Fw
/-- Cells of so many numbers. -/
def arr (K : IntKind) (m : Nat) (g : Nat → Nat) : List AV := (List.range m).map fun k => .int K (g k : Nat)
@[simp] theorem arr_length (K : IntKind) (m : Nat) (g : Nat → Nat) : (arr K m g).length = m := by simp [arr]
theorem arr_at {K : IntKind} {m i : Nat} {g : Nat → Nat} (h : i < m) : (arr K m g)[i]? = some (.int K (g i : Nat)) := by simp [arr, h]
@[simp] theorem arr_getElem (K : IntKind) (m : Nat) (g : Nat → Nat) (k : Nat) (h : k < (arr K m g).length) : (arr K m g)[k] = .int K (g k : Nat) := by simp [arr]
@[simp] theorem cleanL_arr (K : IntKind) (m : Nat) (g : Nat → Nat) : cleanL (arr K m g) = true := cleanL_map _ fun x => by simp [AV.clean]
@[simp] theorem ltL_arr (n : Nat) (K : IntKind) (m : Nat) (g : Nat → Nat) : ltL n (arr K m g) = true := ltL_map _ fun x => by simp [AV.ltI]
@[simp] theorem idsL_arr (q : Nat → Bool) (K : IntKind) (m : Nat) (g : Nat → Nat) : idsL q (arr K m g) = true := idsL_map _ fun x => by simp [AV.ids]
@[simp] theorem subL_arr (s : Nat → Nat → Nat → Nat → Option Nat → AV) (p : Nat → Nat → AV) (K : IntKind) (m : Nat) (g : Nat → Nat) : subL s p (arr K m g) = arr K m g := subL_map _ fun x => by simp [AV.sub]
theorem arr_take (K : IntKind) (m : Nat) (g : Nat → Nat) : (arr K m g).take m = arr K m g := List.take_of_length_le (by simp)
/-- Equal at each place. -/
theorem arr_ext {K : IntKind} {m : Nat} {g h : Nat → Nat} (e : ∀ k, k < m → g k = h k) : arr K m g = arr K m h := by
  refine List.map_congr_left fun k hk => ?_
  rw [e k (by simpa using hk)]
/-- A place is written. -/
def upd (g : Nat → Nat) (i v : Nat) : Nat → Nat := fun k => if k = i then v else g k
theorem arr_set (K : IntKind) (m : Nat) (g : Nat → Nat) (i v : Nat) : (arr K m g).set i (.int K (v : Nat)) = arr K m (upd g i v) := by
  refine List.ext_getElem (by simp) fun k h1 h2 => ?_
  simp only [arr_getElem, upd, List.getElem_set]
  by_cases h : k = i
  · subst h; simp
  · simp [h, Ne.symm h]
theorem hasK_rep (K : IntKind) : ∀ (m : Nat) (l : List AV), (∀ x ∈ l, ∃ n, x = .int K n) → l.length = m → hasK (List.replicate m K) l = true
  | 0, [], _, _ => rfl
  | m + 1, x :: l, h, hl => by
    obtain ⟨n, rfl⟩ := h x (by simp)
    simp only [List.replicate_succ, hasK, decide_true, Bool.true_and]
    exact hasK_rep K m l (fun y hy => h y (by simp [hy])) (by simpa using hl)
theorem hasK_arr (K : IntKind) (m : Nat) (g : Nat → Nat) : hasK (List.replicate m K) (arr K m g) = true :=
  hasK_rep K m _ (fun x hx => by obtain ⟨k, _, rfl⟩ := List.mem_map.1 hx; exact ⟨_, rfl⟩) (by simp)
theorem hasK_bytes (l : List UInt8) {m : Nat} (h : l.length = m) : hasK (List.replicate m .u8) (l.map bv) = true :=
  hasK_rep .u8 m _ (fun x hx => by obtain ⟨k, _, rfl⟩ := List.mem_map.1 hx; exact ⟨_, rfl⟩) (by simpa using h)
theorem q4_arr (n : Nat) : q4 n = arr .u64 4 (wd n) := rfl
theorem byL_arr (m n : Nat) : (byL m n).map bv = arr .u8 m fun k => n / 256 ^ k % 256 := by
  refine List.ext_getElem (by simp [byL]) fun k h1 h2 => ?_
  simp [byL, bv]
section
variable {P : Program} {L : Nat} {k : List It} {e : Env} {H : Heap} {Q : Post} {p : Pend} {d : Option Nat} {pos : Nat} {ks chk : List Nat} {l : List (DOper × List Nat)}
theorem WS_at_arr (K : IntKind) (m : Nat) (g : Nat → Nat) (i : Nat) : WS P L (atF (arr K m g) i) d ks l p e H k Q ↔ i < m ∧ WR P L l p ((e.setO d (.int K (g i : Nat))).dels ks) H k Q := by
  by_cases h : i < m
  · rw [show atF (arr K m g) i = ok1 (.int K (g i : Nat)) by unfold atF; rw [arr_at h]]; simp [h, WS, ok1]
  · have hn : (arr K m g)[i]? = none := List.getElem?_eq_none (by simp; omega)
    simp [atF, hn, h, WS]
theorem WSr_at_arr (K : IntKind) (m : Nat) (g : Nat → Nat) (i : Nat) (o : IOp) : WSr P L (atF (arr K m g) i) true o pos d ks l p e H k Q ↔ i < m ∧ WR P L l ((pos, o, e, (.int K (g i : Nat))) :: p) ((e.setO d (.int K (g i : Nat))).dels ks) H k Q := by
  by_cases h : i < m
  · rw [show atF (arr K m g) i = ok1 (.int K (g i : Nat)) by unfold atF; rw [arr_at h]]; simp [h, WSr, ok1]
  · have hn : (arr K m g)[i]? = none := List.getElem?_eq_none (by simp; omega)
    simp [atF, hn, h, WSr]
end
/-! ### Numbers of one kind in a list -/
def nV (K : IntKind) (n : Nat) : AV := .int K n
section
variable (K : IntKind) (l : List Nat)
@[simp] theorem cleanL_nV : cleanL (l.map (nV K)) = true := cleanL_map _ fun x => by simp [nV, AV.clean]
@[simp] theorem ltL_nV (n : Nat) : ltL n (l.map (nV K)) = true := ltL_map _ fun x => by simp [nV, AV.ltI]
@[simp] theorem idsL_nV (q : Nat → Bool) : idsL q (l.map (nV K)) = true := idsL_map _ fun x => by simp [nV, AV.ids]
@[simp] theorem subL_nV (s : Nat → Nat → Nat → Nat → Option Nat → AV) (p : Nat → Nat → AV) : subL s p (l.map (nV K)) = l.map (nV K) := subL_map _ fun x => by simp [nV, AV.sub]
end
theorem byN_bitD (l : List UInt8) (i : Nat) : (l.getD (i / 8) 0).toNat / 2 ^ (i % 8) % 2 = byN l / 2 ^ i % 2 := by
  by_cases h : i / 8 < l.length
  · rw [← byN_bit l i h]; simp [h]
  · have e : byN l / 2 ^ i = 0 := by
      refine Nat.div_eq_of_lt (Nat.lt_of_lt_of_le (byN_lt l) ?_)
      rw [show (256 : Nat) = 2 ^ 8 from rfl, ← Nat.pow_mul]
      exact Nat.pow_le_pow_right (by decide) (by omega)
    simp [e, h]
/-! ### A byte more in four parts -/
theorem pow256 (i : Nat) : (256 : Nat) ^ i = 2 ^ (64 * (i / 8)) * 2 ^ (8 * (i % 8)) := by
  rw [← Nat.pow_add, show (256 : Nat) = 2 ^ 8 from rfl, ← Nat.pow_mul]; congr 1; omega
theorem wd_top {m i : Nat} (hm : m < 256 ^ i) : wd m (i / 8) < 2 ^ (8 * (i % 8)) := by
  refine Nat.lt_of_le_of_lt (Nat.mod_le _ _) ((Nat.div_lt_iff_lt_mul (Nat.pow_pos (by decide))).2 ?_)
  rw [Nat.mul_comm, ← pow256]; exact hm
theorem wd_high {m i k : Nat} (hm : m < 256 ^ i) (h : i ≤ 8 * k) : wd m k = 0 := by
  simp only [wd]
  rw [Nat.div_eq_of_lt (Nat.lt_of_lt_of_le hm ?_)]
  rw [show (256 : Nat) = 2 ^ 8 from rfl, ← Nat.pow_mul]; exact Nat.pow_le_pow_right (by decide) (by omega)
theorem q4_put (m i x : Nat) (hm : m < 256 ^ i) (hx : x < 256) : (q4 m).set (i / 8) (.int .u64 (wd m (i / 8) + x * 2 ^ (8 * (i % 8)) : Nat)) = q4 (m + x * 256 ^ i) := by
  rw [q4_arr, arr_set, q4_arr]
  refine arr_ext fun k hk => ?_
  simp only [upd]
  have hr : i % 8 < 8 := Nat.mod_lt _ (by decide)
  have hs : m + x * 256 ^ i < 256 ^ (i + 1) := by
    rw [Nat.pow_succ]
    have := Nat.mul_le_mul_right (256 ^ i) (Nat.le_of_lt_succ hx)
    omega
  by_cases h : k = i / 8
  · subst h
    rw [if_pos rfl]
    have ht := wd_top hm
    have e : (m + x * 256 ^ i) / 2 ^ (64 * (i / 8)) = m / 2 ^ (64 * (i / 8)) + x * 2 ^ (8 * (i % 8)) := by
      rw [pow256, Nat.mul_left_comm, Nat.add_mul_div_left _ _ (Nat.pow_pos (by decide))]
    have e2 : m / 2 ^ (64 * (i / 8)) < 2 ^ (8 * (i % 8)) := by
      refine (Nat.div_lt_iff_lt_mul (Nat.pow_pos (by decide))).2 ?_
      rw [Nat.mul_comm, ← pow256]; exact hm
    have e3 : x * 2 ^ (8 * (i % 8)) + 2 ^ (8 * (i % 8)) ≤ 2 ^ 64 := by
      rw [← Nat.succ_mul]
      refine Nat.le_trans (Nat.mul_le_mul_right _ hx) ?_
      rw [show (256 : Nat) = 2 ^ 8 from rfl, ← Nat.pow_add]
      exact Nat.pow_le_pow_right (by decide) (by omega)
    have e4 : wd m (i / 8) = m / 2 ^ (64 * (i / 8)) := Nat.mod_eq_of_lt (by omega)
    rw [e4]
    simp only [wd, e]
    rw [Nat.mod_eq_of_lt (show m / 2 ^ (64 * (i / 8)) + x * 2 ^ (8 * (i % 8)) < 2 ^ 64 by omega)]
  · rw [if_neg h]
    by_cases h2 : k < i / 8
    · simp only [wd]
      have e : x * 256 ^ i = 2 ^ (64 * k) * (2 ^ 64 * (x * 2 ^ (64 * (i / 8 - k - 1)) * 2 ^ (8 * (i % 8)))) := by
        have e5 : (2 : Nat) ^ (64 * (i / 8)) = 2 ^ (64 * k) * (2 ^ 64 * 2 ^ (64 * (i / 8 - k - 1))) := by
          rw [← Nat.pow_add, ← Nat.pow_add]; congr 1; omega
        rw [pow256, e5]
        simp only [Nat.mul_assoc, Nat.mul_left_comm x]
      rw [e, Nat.add_mul_div_left _ _ (Nat.pow_pos (by decide)), Nat.add_mul_mod_self_left]
    · rw [wd_high hm (by omega), wd_high hs (by omega)]
/-! ### Arrays that are filled -/
def byt (n k : Nat) : Nat := n / 256 ^ k % 256
def fill (i : Nat) (g : Nat → Nat) : Nat → Nat := fun k => if k < i then g k else 0
theorem fill_zero (g : Nat → Nat) : fill 0 g = fun _ => 0 := by funext k; simp [fill]
theorem upd_fill (i : Nat) (g : Nat → Nat) : upd (fill i g) i (g i) = fill (i + 1) g := by
  funext k
  simp only [upd, fill]
  by_cases h : k = i
  · subst h; simp
  · by_cases h2 : k < i
    · simp [h, h2, Nat.lt_succ_of_lt h2]
    · simp [h, h2, show ¬ k < i + 1 by omega]
theorem arr_fill (K : IntKind) (m : Nat) (g : Nat → Nat) : arr K m (fill m g) = arr K m g := arr_ext fun k hk => by simp [fill, hk]
theorem byL_byt (m n : Nat) : arr .u8 m (byt n) = (byL m n).map bv := (byL_arr m n).symm
theorem arr_zero32 : ([.int .u8 0, .int .u8 0, .int .u8 0, .int .u8 0, .int .u8 0, .int .u8 0, .int .u8 0, .int .u8 0, .int .u8 0, .int .u8 0, .int .u8 0, .int .u8 0, .int .u8 0, .int .u8 0, .int .u8 0, .int .u8 0, .int .u8 0, .int .u8 0, .int .u8 0, .int .u8 0, .int .u8 0, .int .u8 0, .int .u8 0, .int .u8 0, .int .u8 0, .int .u8 0, .int .u8 0, .int .u8 0, .int .u8 0, .int .u8 0, .int .u8 0, .int .u8 0] : List AV) = arr .u8 32 fun _ => 0 := by kernel_rfl
theorem wd_byt (n i : Nat) : wd n (i / 8) / 2 ^ (8 * (i % 8)) % 256 = byt n i := wd_byte n i
/-! ### Arguments of laws -/
section
variable {P : Program} {m : Nat} {t e : TypeId} {a : AV} {xs : List AV}
theorem fit_words {K : IntKind} (hK : K.signed = false) (he : P.underlying e = some (.int K)) : ∀ {yss : List (List AV)}, (∀ y ∈ yss, Fit P (m + 1) e y) → ∃ ws : List Nat, yss.flatten = ws.map (nV K) ∧ ws.length = yss.length ∧ ∀ w ∈ ws, w < 2 ^ K.bits
  | [], _ => ⟨[], rfl, rfl, fun _ h => by cases h⟩
  | y :: yss, h => by
    obtain ⟨n, h1, h2, rfl⟩ := fit_int he (h y (by simp))
    obtain ⟨ws, g1, g2, g3⟩ := fit_words hK he (yss := yss) (fun y hy => h y (by simp [hy]))
    simp only [IntKind.min, IntKind.max, hK] at h1 h2
    obtain ⟨k, rfl⟩ := Int.eq_ofNat_of_zero_le h1
    refine ⟨k :: ws, by simp [g1, nV], by simp [g2], fun w hw => ?_⟩
    rcases List.mem_cons.1 hw with rfl | hw
    · have e2 : (2 : Int) ^ K.bits = ((2 ^ K.bits : Nat) : Int) := by simp
      simp only [e2] at h2
      simp at h2
      omega
    · exact g3 w hw
theorem fit_q4 (h : P.underlying t = some (.array 4 e)) (he : P.underlying e = some (.int .u64)) (hf : ArgFit P (m + 2) t a) : ∃ n, n < 2 ^ 256 ∧ a = .agg (q4 n) := by
  obtain ⟨yss, rfl, h1, h2⟩ := arg_array h hf
  obtain ⟨ws, g1, g2, g3⟩ := fit_words (K := .u64) rfl he h2
  match ws, g2, g1, g3 with
  | [x, y, z, w], _, g1, g3 =>
    have hx := g3 x (by simp); have hy := g3 y (by simp); have hz := g3 z (by simp); have hw := g3 w (by simp)
    simp only [IntKind.bits] at hx hy hz hw
    exact ⟨mk4 x y z w, mk4_lt hx hy hz hw, by rw [g1, q4_mk hx hy hz hw]; rfl⟩
  | [], g2, _, _ => simp [h1] at g2
  | [_], g2, _, _ => simp [h1] at g2
  | [_, _], g2, _, _ => simp [h1] at g2
  | [_, _, _], g2, _, _ => simp [h1] at g2
  | _ :: _ :: _ :: _ :: _ :: _, g2, _, _ => simp [h1] at g2
end
end Go.Fw
