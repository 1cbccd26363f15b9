/-
  What a machine remembers, as bytes.
-/
import Derived.Test.YtjehncilahjmdaaC1
import Derived.Test.YtjehncilahjmdaaL2
set_option linter.unusedSimpArgs false
set_option linter.unnecessarySimpa false
set_option linter.unusedVariables false
set_option linter.unusedSectionVars false
namespace Go.Fw
/-- A record. -/
structure Rec where
  seq : Nat
  floor : Nat
  bytes : Nat
  sum : Nat
  phase : UInt8
  done : Nat
  init : List UInt8
  deriving DecidableEq
structure Rec.Ok (r : Rec) : Prop where
  seq : r.seq < 2 ^ 32
  floor : r.floor < 2 ^ 32
  bytes : r.bytes < 2 ^ 32
  sum : r.sum < 2 ^ 32
  done : r.done < 2 ^ 32
  init : r.init.length < 2 ^ 40
def rec0 : Rec := ⟨0, 0, 0, 0, 0, 0, []⟩
theorem rec0_ok : rec0.Ok := ⟨by decide, by decide, by decide, by decide, by decide, by decide⟩
/-- May a record be? -/
def Rec.right (r : Rec) : Bool := decide (r.bytes ≤ 4096 ∧ r.done ≤ 4096 ∧ r.phase.toNat ≤ 2 ∧ r.init.length ≤ 128 ∧ (r.phase.toNat ≠ 0 ∨ (r.init.length = 0 ∧ r.done = 0)))
/-- The sum of bytes; 0 in the place of all bits 1. -/
def recSum (b : List UInt8) : Nat := if wn (crcF 0#32 b) = 4294967295 then 0 else wn (crcF 0#32 b)
theorem recSum_lt (b : List UInt8) : recSum b < 2 ^ 32 := by
  unfold recSum; split
  · decide
  · exact wn_lt _
theorem recSum_ne (b : List UInt8) : recSum b ≠ 4294967295 := by
  unfold recSum; split
  · decide
  · assumption
def markN : Nat := 827216706
/-- A record's bytes ahead of the sum. -/
def recHead (r : Rec) : List UInt8 := byL 4 markN ++ byL 4 r.seq ++ byL 4 r.floor ++ byL 4 r.bytes ++ byL 4 r.sum ++ [r.phase, UInt8.ofNat r.init.length, 0, 0] ++ byL 4 r.done
def recBody (r : Rec) : List UInt8 := recHead r ++ r.init ++ List.replicate (128 - r.init.length) 0
def recB (r : Rec) : List UInt8 := recBody r ++ byL 4 (recSum (recBody r))
theorem recHead_len (r : Rec) : (recHead r).length = 28 := by simp [recHead, byL_len]
theorem recBody_len {r : Rec} (h : r.init.length ≤ 128) : (recBody r).length = 156 := by simp [recBody, recHead_len]; omega
theorem recB_len {r : Rec} (h : r.init.length ≤ 128) : (recB r).length = 160 := by simp [recB, recBody_len h, byL_len]
def encF (r : Rec) : List UInt8 × Int := if r.right = true then (recB r, 0) else ([], 1)
/-- The number of four bytes at a place. -/
def at4 (b : List UInt8) (k : Nat) : Nat := byN ((b.drop k).take 4)
theorem at4_lt (b : List UInt8) (k : Nat) : at4 b k < 2 ^ 32 := by
  have := byN_lt ((b.drop k).take 4)
  refine Nat.lt_of_lt_of_le this ?_
  rw [show (2 : Nat) ^ 32 = 256 ^ 4 from rfl]
  exact Nat.pow_le_pow_right (by decide) (by simp; omega)
/-- What bytes tell. -/
def recOf (b : List UInt8) : Rec := ⟨at4 b 4, at4 b 8, at4 b 12, at4 b 16, b.getD 20 0, at4 b 24, (b.drop 28).take (b.getD 21 0).toNat⟩
def parseR (b : List UInt8) : Rec × Int :=
  if ¬ (b.length = 160 ∧ at4 b 0 = markN) then (rec0, 7)
  else if recSum (b.take 156) ≠ at4 b 156 then (rec0, 8)
  else if 128 < (b.getD 21 0).toNat then (rec0, 7)
  else if encF (recOf b) = (b, 0) then (recOf b, 0) else (rec0, 7)
theorem recOf_ok (b : List UInt8) : (recOf b).Ok := ⟨at4_lt _ _, at4_lt _ _, at4_lt _ _, at4_lt _ _, at4_lt _ _, by
  have := (b.getD 21 0).toNat_lt
  show ((b.drop 28).take (b.getD 21 0).toNat).length < 2 ^ 40
  rw [List.length_take]
  omega⟩
theorem parseR_ok (b : List UInt8) : (parseR b).1.Ok := by
  unfold parseR
  repeat' split
  all_goals first | exact rec0_ok | exact recOf_ok b
/-- The cells of a record, as the program has it; as the document has it. -/
def recP (r : Rec) (md : Md) : List AV := [.int .u32 (r.seq : Nat), .int .u32 (r.floor : Nat), .int .u32 (r.bytes : Nat), .int .u32 (r.sum : Nat), bv r.phase, .int .u32 (r.done : Nat), .list 1 md (r.init.map bv)]
def recR (r : Rec) (md : Md) : List AV := [.int .u32 (r.seq : Nat), .int .u32 (r.floor : Nat), .int .u32 (r.bytes : Nat), .int .u32 (r.sum : Nat), .int .u32 (r.done : Nat), bv r.phase, .list 1 md (r.init.map bv)]
end Go.Fw
namespace Go.Fw
theorem encF_len {r : Rec} {c : List UInt8} (h : encF r = (c, 0)) : c.length = 160 := by
  unfold encF at h
  split at h
  · rename_i q
    have : recB r = c := by injection h
    rw [← this]
    refine recB_len ?_
    simp only [Rec.right, decide_eq_true_eq] at q
    exact q.2.2.2.1
  · injection h with h1 h2; exact absurd h2 (by decide)
end Go.Fw
namespace Go.Fw
@[simp] theorem ltL_recP (n : Nat) (r : Rec) (md : Md) : ltL n (recP r md) = true := by simp [recP, ltL, AV.ltI, ltL_bv, bv]
@[simp] theorem ltL_recR (n : Nat) (r : Rec) (md : Md) : ltL n (recR r md) = true := by simp [recR, ltL, AV.ltI, ltL_bv, bv]
@[simp] theorem idsL_recP (q : Nat → Bool) (r : Rec) (md : Md) : idsL q (recP r md) = true := by simp [recP, idsL, AV.ids, idsL_bv, bv]
@[simp] theorem idsL_recR (q : Nat → Bool) (r : Rec) (md : Md) : idsL q (recR r md) = true := by simp [recR, idsL, AV.ids, idsL_bv, bv]
@[simp] theorem recP_len (r : Rec) (md : Md) : (recP r md).length = 7 := rfl
@[simp] theorem recR_len (r : Rec) (md : Md) : (recR r md).length = 7 := rfl
@[simp] theorem recP_take (r : Rec) (md : Md) : (recP r md).take 7 = recP r md := rfl
@[simp] theorem recR_take (r : Rec) (md : Md) : (recR r md).take 7 = recR r md := rfl
end Go.Fw
namespace Go.Fw
/-- A page that is being erased. -/
def pageT (w : Bool) (t : Nat) (P : List UInt8) (i : Nat) : List UInt8 := (pageF w t P).take i ++ P.drop i
theorem pageT_zero (w : Bool) (t : Nat) (P : List UInt8) : pageT w t P 0 = P := by simp [pageT]
theorem pageT_all (w : Bool) (t : Nat) (P : List UInt8) : pageT w t P P.length = pageF w t P := by
  simp only [pageT, List.drop_length, List.append_nil]
  exact List.take_of_length_le (by simp [pageF_len])
theorem pageT_len (w : Bool) (t : Nat) (P : List UInt8) (i : Nat) (h : i ≤ P.length) : (pageT w t P i).length = P.length := by
  simp only [pageT, List.length_append, List.length_take, pageF_len, List.length_drop]; omega
theorem pageT_succ (w : Bool) (t : Nat) (P : List UInt8) (i : Nat) (h : i < P.length) : pageT w t P (i + 1) = if w = true ∨ t / 2 ^ (i % 32) % 2 = 1 then (pageT w t P i).set i 255 else pageT w t P i := by
  have hl : i < (pageF w t P).length := by rw [pageF_len]; exact h
  have e1 : (pageF w t P)[i]? = some (if w = true ∨ t / 2 ^ (i % 32) % 2 = 1 then 255 else P[i]) := by
    rw [List.getElem?_eq_getElem hl]
    simp only [pageF, List.getElem_mapIdx]
  have hti : ((pageF w t P).take i).length = i := by rw [List.length_take]; omega
  have hd : P.drop i = P[i] :: P.drop (i + 1) := List.drop_eq_getElem_cons h
  unfold pageT
  rw [List.take_add_one, e1, Option.toList_some, hd]
  split
  · rw [List.set_append_right _ _ (by omega), hti, Nat.sub_self, List.set_cons_zero, List.append_assoc]
    rfl
  · rw [List.append_assoc]
    rfl
end Go.Fw
