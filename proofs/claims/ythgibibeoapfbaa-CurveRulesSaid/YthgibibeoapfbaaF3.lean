/-
  Digits of any width; numbers of seventeen digits of fifteen bits.
-/
import Derived.Test.YthgibibeoapfbaaF2
set_option linter.unusedSimpArgs false
set_option linter.unnecessarySimpa false
set_option linter.unusedVariables false
set_option linter.unusedSectionVars false
namespace Go.Fw
/-- A number as seventeen digits. -/
def q17 (n : Nat) : List AV := arr .i64 17 (dig n)
@[simp] theorem q17_length (n : Nat) : (q17 n).length = 17 := by simp [q17]
@[simp] theorem cleanL_q17 (n : Nat) : cleanL (q17 n) = true := cleanL_arr _ _ _
@[simp] theorem ltL_q17 (m n : Nat) : ltL m (q17 n) = true := ltL_arr _ _ _ _
@[simp] theorem idsL_q17 (q : Nat → Bool) (n : Nat) : idsL q (q17 n) = true := idsL_arr _ _ _ _
@[simp] theorem subL_q17 (s : Nat → Nat → Nat → Nat → Option Nat → AV) (p : Nat → Nat → AV) (n : Nat) : subL s p (q17 n) = q17 n := subL_arr _ _ _ _ _
@[simp] theorem take17_q17 (n : Nat) : (q17 n).take 17 = q17 n := List.take_of_length_le (by simp)
theorem hasK_q17 (n : Nat) : hasK (List.replicate 17 .i64) (q17 n) = true := hasK_arr _ _ _
theorem z17 : [AV.int .i64 0, AV.int .i64 0, AV.int .i64 0, AV.int .i64 0, AV.int .i64 0, AV.int .i64 0, AV.int .i64 0, AV.int .i64 0, AV.int .i64 0, AV.int .i64 0, AV.int .i64 0, AV.int .i64 0, AV.int .i64 0, AV.int .i64 0, AV.int .i64 0, AV.int .i64 0, AV.int .i64 0] = arr .i64 17 fun _ => 0 := by kernel_rfl
theorem z34 : AV.int .i64 0 :: AV.int .i64 0 :: AV.int .i64 0 :: AV.int .i64 0 :: AV.int .i64 0 :: AV.int .i64 0 :: AV.int .i64 0 :: AV.int .i64 0 :: AV.int .i64 0 :: AV.int .i64 0 :: AV.int .i64 0 :: AV.int .i64 0 :: AV.int .i64 0 :: AV.int .i64 0 :: AV.int .i64 0 :: AV.int .i64 0 :: AV.int .i64 0 :: arr .i64 17 (fun _ => 0) = arr .i64 34 fun _ => 0 := by kernel_rfl
end Go.Fw
