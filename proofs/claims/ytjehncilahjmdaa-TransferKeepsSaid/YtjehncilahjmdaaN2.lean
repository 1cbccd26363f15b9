/-
  Arrays of numbers, told by what lies at each place.
-/
import Derived.Test.YtjehncilahjmdaaN1
set_option linter.unusedSimpArgs false
set_option linter.unnecessarySimpa false
set_option linter.unusedVariables false
set_option linter.unusedSectionVars false
namespace Go.Fw
/-- Cells of so many numbers. -/
def arr (K : IntKind) (m : Nat) (g : Nat → Nat) : List AV := (List.range m).map fun k => .int K (g k : Nat)
@[simp] theorem arr_length (K : IntKind) (m : Nat) (g : Nat → Nat) : (arr K m g).length = m := by simp [arr]
theorem arr_at {K : IntKind} {m i : Nat} {g : Nat → Nat} (h : i < m) : (arr K m g)[i]? = some (.int K (g i : Nat)) := by simp [arr, h]
@[simp] theorem arr_getElem (K : IntKind) (m : Nat) (g : Nat → Nat) (k : Nat) (h : k < (arr K m g).length) : (arr K m g)[k] = .int K (g k : Nat) := by simp [arr]
@[simp] theorem cleanL_arr (K : IntKind) (m : Nat) (g : Nat → Nat) : cleanL (arr K m g) = true := cleanL_map _ fun x => by simp [AV.clean]
@[simp] theorem ltL_arr (n : Nat) (K : IntKind) (m : Nat) (g : Nat → Nat) : ltL n (arr K m g) = true := ltL_map _ fun x => by simp [AV.ltI]
@[simp] theorem idsL_arr (q : Nat → Bool) (K : IntKind) (m : Nat) (g : Nat → Nat) : idsL q (arr K m g) = true := idsL_map _ fun x => by simp [AV.ids]
@[simp] theorem subL_arr (s : Nat → Nat → Nat → Nat → Option Nat → AV) (p : Nat → Nat → AV) (K : IntKind) (m : Nat) (g : Nat → Nat) : subL s p (arr K m g) = arr K m g := subL_map _ fun x => by simp [AV.sub]
theorem arr_take (K : IntKind) (m : Nat) (g : Nat → Nat) : (arr K m g).take m = arr K m g := List.take_of_length_le (by simp)
/-- Equal at each place. -/
theorem arr_ext {K : IntKind} {m : Nat} {g h : Nat → Nat} (e : ∀ k, k < m → g k = h k) : arr K m g = arr K m h := by
  refine List.map_congr_left fun k hk => ?_
  rw [e k (by simpa using hk)]
/-- A place is written. -/
def upd (g : Nat → Nat) (i v : Nat) : Nat → Nat := fun k => if k = i then v else g k
theorem arr_set (K : IntKind) (m : Nat) (g : Nat → Nat) (i v : Nat) : (arr K m g).set i (.int K (v : Nat)) = arr K m (upd g i v) := by
  refine List.ext_getElem (by simp) fun k h1 h2 => ?_
  simp only [arr_getElem, upd, List.getElem_set]
  by_cases h : k = i
  · subst h; simp
  · simp [h, Ne.symm h]
theorem arr_replicate (K : IntKind) (m v : Nat) : List.replicate m (AV.int K (v : Nat)) = arr K m fun _ => v := by
  refine List.ext_getElem (by simp) fun k h1 h2 => by simp
section
variable {P : Program} {L : Nat} {k : List It} {e : Env} {H : Heap} {Q : Post} {p : Pend} {d : Option Nat} {pos : Nat} {ks chk : List Nat} {l : List (DOper × List Nat)}
theorem WS_at_arr (K : IntKind) (m : Nat) (g : Nat → Nat) (i : Nat) : WS P L (atF (arr K m g) i) d ks l p e H k Q ↔ i < m ∧ WR P L l p ((e.setO d (.int K (g i : Nat))).dels ks) H k Q := by
  by_cases h : i < m
  · rw [show atF (arr K m g) i = ok1 (.int K (g i : Nat)) by unfold atF; rw [arr_at h]]; simp [h, WS, ok1]
  · have hn : (arr K m g)[i]? = none := List.getElem?_eq_none (by simp; omega)
    simp [atF, hn, h, WS]
theorem WSr_at_arr (K : IntKind) (m : Nat) (g : Nat → Nat) (i : Nat) (o : IOp) : WSr P L (atF (arr K m g) i) true o pos d ks l p e H k Q ↔ i < m ∧ WR P L l ((pos, o, e, (.int K (g i : Nat))) :: p) ((e.setO d (.int K (g i : Nat))).dels ks) H k Q := by
  by_cases h : i < m
  · rw [show atF (arr K m g) i = ok1 (.int K (g i : Nat)) by unfold atF; rw [arr_at h]]; simp [h, WSr, ok1]
  · have hn : (arr K m g)[i]? = none := List.getElem?_eq_none (by simp; omega)
    simp [atF, hn, h, WSr]
end
/-! ### Numbers of one kind in a list -/
def nV (K : IntKind) (n : Nat) : AV := .int K n
section
variable (K : IntKind) (l : List Nat)
@[simp] theorem cleanL_nV : cleanL (l.map (nV K)) = true := cleanL_map _ fun x => by simp [nV, AV.clean]
@[simp] theorem ltL_nV (n : Nat) : ltL n (l.map (nV K)) = true := ltL_map _ fun x => by simp [nV, AV.ltI]
@[simp] theorem idsL_nV (q : Nat → Bool) : idsL q (l.map (nV K)) = true := idsL_map _ fun x => by simp [nV, AV.ids]
@[simp] theorem subL_nV (s : Nat → Nat → Nat → Nat → Option Nat → AV) (p : Nat → Nat → AV) : subL s p (l.map (nV K)) = l.map (nV K) := subL_map _ fun x => by simp [nV, AV.sub]
end
/-! ### A byte more in four parts -/
/-! ### Arrays that are filled -/
def fill (i : Nat) (g : Nat → Nat) : Nat → Nat := fun k => if k < i then g k else 0
theorem fill_zero (g : Nat → Nat) : fill 0 g = fun _ => 0 := by funext k; simp [fill]
theorem upd_fill (i : Nat) (g : Nat → Nat) : upd (fill i g) i (g i) = fill (i + 1) g := by
  funext k
  simp only [upd, fill]
  by_cases h : k = i
  · subst h; simp
  · by_cases h2 : k < i
    · simp [h, h2, Nat.lt_succ_of_lt h2]
    · simp [h, h2, show ¬ k < i + 1 by omega]
theorem arr_fill (K : IntKind) (m : Nat) (g : Nat → Nat) : arr K m (fill m g) = arr K m g := arr_ext fun k hk => by simp [fill, hk]
/-! ### Arguments of laws -/
section
variable {P : Program} {m : Nat} {t e : TypeId} {a : AV} {xs : List AV}
end
end Go.Fw
