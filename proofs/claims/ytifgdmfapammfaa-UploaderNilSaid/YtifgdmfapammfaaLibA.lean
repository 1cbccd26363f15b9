/-
  Plain facts, with no program in sight, part 1.
-/
import Derived.Test.YtifgdmfapammfaaFwC
set_option linter.unusedSimpArgs false
set_option linter.unnecessarySimpa false
set_option linter.unusedVariables false
set_option linter.unusedSectionVars false
namespace Go.Fw
def wd (n k : Nat) : Nat := n / 2 ^ (64 * k) % 2 ^ 64
def q4 (n : Nat) : List AV := [.int .u64 (wd n 0 : Nat), .int .u64 (wd n 1 : Nat), .int .u64 (wd n 2 : Nat), .int .u64 (wd n 3 : Nat)]
theorem q4_at {n k : Nat} (h : k < 4) : (q4 n)[k]? = some (.int .u64 (wd n k : Nat)) := by
  match k, h with
  | 0, _ => rfl
  | 1, _ => rfl
  | 2, _ => rfl
  | 3, _ => rfl
end Go.Fw
namespace Go.Fw
@[simp] theorem cleanL_q4 (n : Nat) : cleanL (q4 n) = true := by simp [q4, cleanL, AV.clean]
@[simp] theorem ltL_q4 (m n : Nat) : ltL m (q4 n) = true := by simp [q4, ltL, AV.ltI]
@[simp] theorem idsL_q4 (q : Nat → Bool) (n : Nat) : idsL q (q4 n) = true := by simp [q4, idsL, AV.ids]
@[simp] theorem subL_q4 (s : Nat → Nat → Nat → Nat → Option Nat → AV) (p : Nat → Nat → AV) (n : Nat) : subL s p (q4 n) = q4 n := by simp [q4, subL, AV.sub]
@[simp] theorem q4_length (n : Nat) : (q4 n).length = 4 := by simp [q4]
@[simp] theorem take4_q4 (n : Nat) : (q4 n).take 4 = q4 n := by simp [q4]
@[simp] theorem hasK4_q4 (n : Nat) : hasK [.u64, .u64, .u64, .u64] (q4 n) = true := by simp [q4, hasK]
@[simp] theorem q4_getElem (n k : Nat) (h : k < (q4 n).length) : (q4 n)[k] = .int .u64 (wd n k : Nat) := by
  have e := q4_at (n := n) (k := k) (by simpa using h)
  rw [List.getElem?_eq_getElem h] at e
  exact Option.some.inj e
section
variable {P : Program} {L : Nat} {k : List It} {e : Env} {H : Heap} {Q : Post} {p : Pend} {d : Option Nat} {pos : Nat} {ks chk : List Nat} {l : List (DOper × List Nat)}
theorem WS_at_map {α : Type} [Inhabited α] (f : α → AV) (xs : List α) (i : Nat) : WS P L (atF (xs.map f) i) d ks l p e H k Q ↔ i < xs.length ∧ WR P L l p ((e.setO d (f (xs.getD i default))).dels ks) H k Q := by
  by_cases h : i < xs.length
  · simp [atF, h, WS, ok1]
  · simp [atF, h, WS]
theorem WSr_at_map {α : Type} [Inhabited α] (f : α → AV) (xs : List α) (i : Nat) (o : IOp) : WSr P L (atF (xs.map f) i) true o pos d ks l p e H k Q ↔ i < xs.length ∧ WR P L l ((pos, o, e, (f (xs.getD i default))) :: p) ((e.setO d (f (xs.getD i default))).dels ks) H k Q := by
  by_cases h : i < xs.length
  · simp [atF, h, WSr, ok1]
  · simp [atF, h, WSr]
end
end Go.Fw
namespace Go.Fw
def mx (i s n : Nat) : List AV := [.int .u64 (if 0 < i then wd s 0 else wd n 0 : Nat), .int .u64 (if 1 < i then wd s 1 else wd n 1 : Nat), .int .u64 (if 2 < i then wd s 2 else wd n 2 : Nat), .int .u64 (if 3 < i then wd s 3 else wd n 3 : Nat)]
@[simp] theorem mx_length (i s n : Nat) : (mx i s n).length = 4 := by simp [mx]
@[simp] theorem cleanL_mx (i s n : Nat) : cleanL (mx i s n) = true := by simp [mx, cleanL, AV.clean]
@[simp] theorem ltL_mx (m i s n : Nat) : ltL m (mx i s n) = true := by simp [mx, ltL, AV.ltI]
section
variable {P : Program} {L : Nat} {k : List It} {e : Env} {H : Heap} {Q : Post} {p : Pend} {d : Option Nat} {pos : Nat} {ks chk : List Nat} {l : List (DOper × List Nat)}
end
theorem splice_full {xs vs : List AV} (h : vs.length = xs.length) : splice xs 0 vs = vs := by
  rw [splice_take_drop _ _ _ (by omega)]; simp [h]
end Go.Fw
namespace Go.Fw
def arr (K : IntKind) (m : Nat) (g : Nat → Nat) : List AV := (List.range m).map fun k => .int K (g k : Nat)
@[simp] theorem arr_length (K : IntKind) (m : Nat) (g : Nat → Nat) : (arr K m g).length = m := by simp [arr]
@[simp] theorem arr_getElem (K : IntKind) (m : Nat) (g : Nat → Nat) (k : Nat) (h : k < (arr K m g).length) : (arr K m g)[k] = .int K (g k : Nat) := by simp [arr]
@[simp] theorem cleanL_arr (K : IntKind) (m : Nat) (g : Nat → Nat) : cleanL (arr K m g) = true := cleanL_map _ fun x => by simp [AV.clean]
@[simp] theorem ltL_arr (n : Nat) (K : IntKind) (m : Nat) (g : Nat → Nat) : ltL n (arr K m g) = true := ltL_map _ fun x => by simp [AV.ltI]
@[simp] theorem idsL_arr (q : Nat → Bool) (K : IntKind) (m : Nat) (g : Nat → Nat) : idsL q (arr K m g) = true := idsL_map _ fun x => by simp [AV.ids]
@[simp] theorem subL_arr (s : Nat → Nat → Nat → Nat → Option Nat → AV) (p : Nat → Nat → AV) (K : IntKind) (m : Nat) (g : Nat → Nat) : subL s p (arr K m g) = arr K m g := subL_map _ fun x => by simp [AV.sub]
section
variable {P : Program} {L : Nat} {k : List It} {e : Env} {H : Heap} {Q : Post} {p : Pend} {d : Option Nat} {pos : Nat} {ks chk : List Nat} {l : List (DOper × List Nat)}
end
def nV (K : IntKind) (n : Nat) : AV := .int K n
section
variable (K : IntKind) (l : List Nat)
@[simp] theorem cleanL_nV : cleanL (l.map (nV K)) = true := cleanL_map _ fun x => by simp [nV, AV.clean]
@[simp] theorem ltL_nV (n : Nat) : ltL n (l.map (nV K)) = true := ltL_map _ fun x => by simp [nV, AV.ltI]
@[simp] theorem idsL_nV (q : Nat → Bool) : idsL q (l.map (nV K)) = true := idsL_map _ fun x => by simp [nV, AV.ids]
@[simp] theorem subL_nV (s : Nat → Nat → Nat → Nat → Option Nat → AV) (p : Nat → Nat → AV) : subL s p (l.map (nV K)) = l.map (nV K) := subL_map _ fun x => by simp [nV, AV.sub]
end
section
variable {P : Program} {m : Nat} {t e : TypeId} {a : AV} {xs : List AV}
end
end Go.Fw
