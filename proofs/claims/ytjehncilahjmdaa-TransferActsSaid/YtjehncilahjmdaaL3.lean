/-
  Bytes that fall: whole, or as a tear tells.
-/
import Derived.Test.YtjehncilahjmdaaL2
set_option linter.unusedSimpArgs false
set_option linter.unnecessarySimpa false
set_option linter.unusedVariables false
set_option linter.unusedSectionVars false
namespace Go.Fw
theorem bitI_andNot8 (x y : UInt8) : bitI .andNot .u8 (x.toNat : Int) (y.toNat : Int) = ((x &&& ~~~y).toNat : Int) := by
  have hx := x.toNat_lt
  have hy := y.toNat_lt
  have h := Nat.and_lt_two_pow (n := 8) x.toNat (y := (2 ^ 8 - 1) ^^^ y.toNat) (Nat.xor_lt_two_pow (by omega) hy)
  have e : (x &&& ~~~y).toNat = x.toNat &&& ((2 ^ 8 - 1) ^^^ y.toNat) := by
    rw [UInt8.toNat_and]
    congr 1
  rw [e]
  simp only [bitI, BitVec.not_def, BitVec.toNat_and, BitVec.toNat_xor, BitVec.toNat_allOnes, bv_ofInt_nat, wrapu8]
  simp only [IntKind.bits] at *
  rw [Nat.mod_eq_of_lt hx, Nat.mod_eq_of_lt hy, Nat.mod_eq_of_lt h]
theorem u8_sub (x d : UInt8) (h : x &&& d = d) : IntKind.u8.wrap ((x.toNat : Int) - (d.toNat : Int)) = ((x &&& ~~~d).toNat : Int) := by
  have hle : d.toNat ≤ x.toNat := by rw [← h, UInt8.toNat_and]; exact Nat.and_le_left
  have e1 : x - d = x &&& ~~~d := by
    have h1 : (x &&& ~~~d) + d = x := by
      apply UInt8.toBitVec_inj.1
      rw [UInt8.toBitVec_add, BitVec.add_eq_or_of_and_eq_zero]
      · have h' := congrArg UInt8.toBitVec h
        simp only [UInt8.toBitVec_and, UInt8.toBitVec_not] at h' ⊢
        ext i hi
        have := congrArg (fun v : BitVec 8 => v[i]) h'
        simp at this ⊢
        revert this
        cases x.toBitVec[i] <;> cases d.toBitVec[i] <;> simp
      · ext i hi
        simp
    have h2 := congrArg (· - d) h1
    simp only [UInt8.add_sub_cancel] at h2
    exact h2.symm
  rw [← e1, UInt8.toNat_sub_of_le _ _ hle]
  rw [show (x.toNat : Int) - d.toNat = ((x.toNat - d.toNat : Nat) : Int) by omega, wrapu8]
  have := x.toNat_lt
  omega
theorem u8_and (x y : UInt8) : x &&& ~~~(x &&& ~~~y) = x &&& y := by
  apply UInt8.toBitVec_inj.1
  ext i hi
  simp
  cases x.toBitVec[i] <;> simp
theorem u8_drop (x y z : UInt8) : x &&& ~~~(x &&& ~~~y &&& z) = x &&& ~~~(~~~y &&& z) := by
  apply UInt8.toBitVec_inj.1
  ext i hi
  simp
  cases x.toBitVec[i] <;> simp
theorem u8_in (x y z : UInt8) : x &&& (x &&& ~~~y &&& z) = x &&& ~~~y &&& z ∧ x &&& (x &&& ~~~y) = x &&& ~~~y := by
  constructor <;> (apply UInt8.toBitVec_inj.1; ext i hi; simp) <;> cases x.toBitVec[i] <;> simp
theorem u8_bad (x y : UInt8) : y &&& ~~~x = 0 ↔ x &&& y = y := by
  constructor
  · intro h
    have h' := congrArg UInt8.toBitVec h
    apply UInt8.toBitVec_inj.1
    ext i hi
    have := congrArg (fun v : BitVec 8 => v[i]) h'
    simp at this ⊢
    revert this
    cases x.toBitVec[i] <;> cases y.toBitVec[i] <;> simp
  · intro h
    have h' := congrArg UInt8.toBitVec h
    apply UInt8.toBitVec_inj.1
    ext i hi
    have := congrArg (fun v : BitVec 8 => v[i]) h'
    simp at this ⊢
    revert this
    cases x.toBitVec[i] <;> cases y.toBitVec[i] <;> simp
theorem andB_get {a b : List UInt8} {i : Nat} (ha : i < a.length) (hb : i < b.length) : (andB a b)[i]? = some (a[i] &&& b[i]) := by
  simp [andB, List.getElem?_zipWith, ha, hb]
theorem tornB_get {a b t : List UInt8} {i : Nat} (ha : i < a.length) (hb : i < b.length) (ht : i < t.length) : (tornB a b t)[i]? = some (a[i] &&& ~~~(~~~b[i] &&& t[i])) := by
  unfold tornB
  rw [List.getElem?_map, List.getElem?_eq_getElem (by simp; omega), List.getElem_zip, List.getElem_zip]
  rfl
/-- Is there a bit that should rise? -/
def riseB (was d : List UInt8) : Bool := (was.zip d).any fun p => p.2 &&& ~~~p.1 != 0
theorem riseB_iff : ∀ {was d : List UInt8}, was.length = d.length → (riseB was d = false ↔ andB was d = d)
  | [], [], _ => by simp [riseB, andB]
  | x :: a, y :: b, h => by
    have ih := riseB_iff (was := a) (d := b) (by simpa using h)
    have e : riseB (x :: a) (y :: b) = ((y &&& ~~~x != 0) || riseB a b) := rfl
    have e2 : andB (x :: a) (y :: b) = (x &&& y) :: andB a b := rfl
    rw [e, e2, Bool.or_eq_false_iff, List.cons.injEq, ih, ← u8_bad x y]
    simp
  | [], _ :: _, h => by simp at h
  | _ :: _, [], h => by simp at h
theorem riseB_succ {was d : List UInt8} {k : Nat} (h1 : k < was.length) (h2 : k < d.length) : riseB (was.take (k + 1)) (d.take (k + 1)) = (riseB (was.take k) (d.take k) || (d[k] &&& ~~~was[k] != 0)) := by
  rw [List.take_succ_eq_append_getElem h1, List.take_succ_eq_append_getElem h2]
  unfold riseB
  rw [List.zip_append (by simp; omega)]
  simp
end Go.Fw
