/-
  Codes of functions.
-/
import Derived.Test.YthgibibeoapfbaaeVC
import Derived.Test.YthgibibeoapfbaaRows
set_option linter.unusedSimpArgs false
set_option linter.unnecessarySimpa false
set_option linter.unusedVariables false
set_option linter.unusedSectionVars false
namespace Go.Proofs.Ythgibibeoapfbaa
open Go.Fw
@[reducible] def fOrder_r0 : List (DOper × List Nat) := [
  o1 0 (.alloc 62 [(.int .u64 0), (.int .u64 0), (.int .u64 0), (.int .u64 0)]) []]
@[reducible] def fOrder_r1 : List (DOper × List Nat) := [
  o1 1 (.build [(.int .u64 0), (.int .u64 0), (.int .u64 0), (.int .u64 0)] [(0, 1, (.k (.int .u64 6346243789798364141))), (1, 1, (.k (.int .u64 1503914060200516822))), (2, 1, (.k (.int .u64 0))), (3, 1, (.k (.int .u64 1152921504606846976)))]) [],
  (⟨⟨none, none, .store 4 (.t 0) (.t 1)⟩, 0, []⟩, [1])]
/-- bosun/scalar.Order -/
@[reducible] def fOrder : KCode := (.seq (.reg fOrder_r0) (.seq (.reg fOrder_r1) .ret))
@[reducible] def fOrder_rs : List IRes := [.cell 0 (some 4)]
theorem fOrder_low : lowFunc Try.prog 43 [] [] = some ⟨fOrder.bare, fOrder_rs, 2⟩ := by kernel_rfl

@[reducible] def fLess_r0 : List (DOper × List Nat) := [
  o1 2 (.box 62 (.t 0)) [0],
  o1 3 (.box 62 (.t 1)) [1],
  o1 4 (.mv (.k (.bool false))) [4]]
@[reducible] def fLess_r1 : List (DOper × List Nat) := [
  o1 5 (.mv (.k (.int .i64 3))) []]
@[reducible] def fLess_r2 : List (DOper × List Nat) := [
  o1 6 (.mv (.t 5)) [],
  o1 7 (.bin false .geq (.t 6) (.k (.int .i64 0))) [6]]
@[reducible] def fLess_r3 : List (DOper × List Nat) := [
  o1 10 (.mv (.t 5)) [],
  o2 11 1 (.idxA 4 1 (.t 2) (.t 10)) [10],
  o2 12 2 (.load none (.t 11)) [11],
  o2 13 3 (.mv (.t 5)) [],
  o2 14 4 (.idxA 4 1 (.t 3) (.t 13)) [13],
  o2 15 5 (.load none (.t 14)) [14],
  o2 16 6 (.bin false .neq (.t 12) (.t 15)) [12, 15]]
@[reducible] def fLess_r4 : List (DOper × List Nat) := [
  o1 17 (.mv (.t 5)) [],
  o2 18 1 (.idxA 4 1 (.t 2) (.t 17)) [2, 17],
  o2 19 2 (.load none (.t 18)) [18],
  o2 20 3 (.mv (.t 5)) [5],
  o2 21 4 (.idxA 4 1 (.t 3) (.t 20)) [3, 20],
  o2 22 5 (.load none (.t 21)) [21],
  o2 23 6 (.bin false .lss (.t 19) (.t 22)) [19, 22],
  o2 4 7 (.mv (.t 23)) [23]]
@[reducible] def fLess_k0 : KCode := (.kill [16] (.seq (.draw fLess_r4) .ret))
@[reducible] def fLess_r5 : List (DOper × List Nat) := [
  o1 8 (.mv (.t 5)) [5],
  o1 9 (.bin false .sub (.t 8) (.k (.int .i64 1))) [8],
  o1 5 (.mv (.t 9)) [9]]
/-- live: [2, 3, 5] -/
@[reducible] def fLess_l1 : KCode := (.seq (.seq (.reg fLess_r2) (.cond (.t 7) (.kill [7] .skip) (.keep [] (.exit 0)))) (.kill [6, 7] (.seq (.block 1 (.seq (.draw fLess_r3) (.cond (.t 16) fLess_k0 (.kill [16] .skip)))) (.keep [2, 3, 5] (.reg fLess_r5)))))
@[reducible] def fLess_r6 : List (DOper × List Nat) := [
  o1 4 (.mv (.k (.bool false))) []]
/-- bosun/scalar.less -/
@[reducible] def fLess : KCode := (.seq (.reg fLess_r0) (.seq (.seq (.reg fLess_r1) (.block 0 (.loop fLess_l1))) (.keep [] (.seq (.reg fLess_r6) .ret))))
@[reducible] def fLess_rs : List IRes := [.tmp 4]
theorem fLess_low : lowFunc Try.prog 121 [] [] = some ⟨fLess.bare, fLess_rs, 24⟩ := by kernel_rfl

@[reducible] def fOnce_r0 : List (DOper × List Nat) := [
  o1 1 (.box 62 (.t 0)) [0],
  o1 2 (.alloc 62 [(.int .u64 0), (.int .u64 0), (.int .u64 0), (.int .u64 0)]) []]
@[reducible] def fOnce_r1 : List (DOper × List Nat) := [
  o1 7 (.load (some 4) (.t 1)) [],
  (⟨⟨(some 8), none, .call 43 []⟩, 1, [0]⟩, []),
  o2 9 2 (.call 121 [(.t 7), (.t 8)]) [7, 8]]
@[reducible] def fOnce_r2 : List (DOper × List Nat) := [
  o1 10 (.load (some 4) (.t 1)) [1],
  (⟨⟨none, none, .store 4 (.t 2) (.t 10)⟩, 0, []⟩, [10])]
@[reducible] def fOnce_k0 : KCode := (.kill [9] (.seq (.reg fOnce_r2) .ret))
@[reducible] def fOnce_r3 : List (DOper × List Nat) := [
  o1 3 (.alloc 62 [(.int .u64 0), (.int .u64 0), (.int .u64 0), (.int .u64 0)]) []]
@[reducible] def fOnce_r4 : List (DOper × List Nat) := [
  o1 4 (.mv (.k (.int .u64 0))) []]
@[reducible] def fOnce_r5 : List (DOper × List Nat) := [
  o1 11 (.call 43 []) [],
  o1 12 (.mv (.k (.int .i64 0))) []]
@[reducible] def fOnce_r6 : List (DOper × List Nat) := [
  o1 13 (.bin false .lss (.t 12) (.k (.int .i64 4))) []]
@[reducible] def fOnce_k1 : KCode := (.keep [2, 3] (.exit 0))
@[reducible] def fOnce_r7 : List (DOper × List Nat) := [
  o1 14 (.mv (.t 12)) [],
  o1 15 (.ixA 4 1 none (.t 11) (.t 12)) [],
  o1 5 (.mv (.t 14)) [14],
  o1 6 (.mv (.t 15)) [15]]
@[reducible] def fOnce_r8 : List (DOper × List Nat) := [
  o1 17 (.mv (.t 5)) [],
  o1 18 (.mv (.t 5)) [5],
  o1 19 (.idxA 4 1 (.t 1) (.t 18)) [18],
  o1 20 (.load none (.t 19)) [19],
  o1 21 (.mv (.t 6)) [6],
  o1 22 (.mv (.t 4)) [4],
  o1 23 (.call 122 [(.t 20), (.t 21), (.t 22)]) [20, 21, 22],
  o1 16 (.mv (.t 23)) [23],
  o1 24 (.extract 0 (.t 16)) [],
  o1 25 (.extract 1 (.t 16)) [16],
  o1 26 (.idxA 4 1 (.t 3) (.t 17)) [17],
  (⟨⟨none, none, .store 1 (.t 26) (.t 24)⟩, 0, []⟩, [24, 26]),
  o1 4 (.mv (.t 25)) [25]]
@[reducible] def fOnce_r9 : List (DOper × List Nat) := [
  o1 27 (.bin false .add (.t 12) (.k (.int .i64 1))) [12],
  o1 12 (.mv (.t 27)) [27]]
/-- live: [1, 2, 3, 4, 11, 12] -/
@[reducible] def fOnce_l2 : KCode := (.seq (.reg fOnce_r6) (.seq (.cond (.t 13) (.kill [13] .skip) fOnce_k1) (.kill [13] (.seq (.block 1 (.seq (.reg fOnce_r7) (.reg fOnce_r8))) (.keep [1, 2, 3, 4, 11, 12] (.reg fOnce_r9))))))
@[reducible] def fOnce_r10 : List (DOper × List Nat) := [
  o1 28 (.load (some 4) (.t 3)) [3],
  (⟨⟨none, none, .store 4 (.t 2) (.t 28)⟩, 0, []⟩, [28])]
/-- bosun/scalar.once -/
@[reducible] def fOnce : KCode := (.seq (.reg fOnce_r0) (.seq (.seq (.draw fOnce_r1) (.cond (.t 9) fOnce_k0 (.kill [9] .skip))) (.keep [1, 2] (.seq (.reg fOnce_r3) (.seq (.reg fOnce_r4) (.seq (.seq (.reg fOnce_r5) (.block 0 (.loop fOnce_l2))) (.keep [2, 3] (.seq (.reg fOnce_r10) .ret))))))))
@[reducible] def fOnce_rs : List IRes := [.cell 2 (some 4)]
theorem fOnce_low : lowFunc Try.prog 91 [] [] = some ⟨fOnce.bare, fOnce_rs, 29⟩ := by kernel_rfl

@[reducible] def fAdd_r0 : List (DOper × List Nat) := [
  o1 2 (.box 62 (.t 0)) [0],
  o1 3 (.box 62 (.t 1)) [1],
  o1 4 (.alloc 62 [(.int .u64 0), (.int .u64 0), (.int .u64 0), (.int .u64 0)]) []]
@[reducible] def fAdd_r1 : List (DOper × List Nat) := [
  o1 5 (.alloc 62 [(.int .u64 0), (.int .u64 0), (.int .u64 0), (.int .u64 0)]) []]
@[reducible] def fAdd_r2 : List (DOper × List Nat) := [
  o1 6 (.mv (.k (.int .u64 0))) []]
@[reducible] def fAdd_r3 : List (DOper × List Nat) := [
  o1 8 (.mv (.k (.int .i64 0))) []]
@[reducible] def fAdd_r4 : List (DOper × List Nat) := [
  o1 9 (.bin false .lss (.t 8) (.k (.int .i64 4))) []]
@[reducible] def fAdd_k0 : KCode := (.keep [4, 5] (.exit 0))
@[reducible] def fAdd_r5 : List (DOper × List Nat) := [
  o1 10 (.mv (.t 8)) [],
  o1 7 (.mv (.t 10)) [10]]
@[reducible] def fAdd_r6 : List (DOper × List Nat) := [
  o1 12 (.mv (.t 7)) [],
  o2 13 1 (.mv (.t 7)) [],
  o2 14 2 (.idxA 4 1 (.t 2) (.t 13)) [13],
  o2 15 3 (.load none (.t 14)) [14],
  o2 16 4 (.mv (.t 7)) [7],
  o2 17 5 (.idxA 4 1 (.t 3) (.t 16)) [16],
  o2 18 6 (.load none (.t 17)) [17],
  o2 19 7 (.mv (.t 6)) [6],
  o2 20 8 (.call 90 [(.t 15), (.t 18), (.t 19)]) [15, 18, 19],
  o2 11 9 (.mv (.t 20)) [20],
  o2 21 10 (.extract 0 (.t 11)) [],
  o2 22 11 (.extract 1 (.t 11)) [11],
  o2 23 12 (.idxA 4 1 (.t 5) (.t 12)) [12],
  (⟨⟨none, none, .store 1 (.t 23) (.t 21)⟩, 13, []⟩, [21, 23]),
  o2 6 14 (.mv (.t 22)) [22]]
@[reducible] def fAdd_r7 : List (DOper × List Nat) := [
  o1 24 (.bin false .add (.t 8) (.k (.int .i64 1))) [8],
  o1 8 (.mv (.t 24)) [24]]
/-- live: [2, 3, 4, 5, 6, 8] -/
@[reducible] def fAdd_l1 : KCode := (.seq (.reg fAdd_r4) (.seq (.cond (.t 9) (.kill [9] .skip) fAdd_k0) (.kill [9] (.seq (.block 1 (.seq (.reg fAdd_r5) (.draw fAdd_r6))) (.keep [2, 3, 4, 5, 6, 8] (.reg fAdd_r7))))))
@[reducible] def fAdd_r8 : List (DOper × List Nat) := [
  o1 25 (.load (some 4) (.t 5)) [5],
  o1 26 (.call 91 [(.t 25)]) [25],
  (⟨⟨none, none, .store 4 (.t 4) (.t 26)⟩, 0, []⟩, [26])]
/-- bosun/scalar.Add -/
@[reducible] def fAdd : KCode := (.seq (.reg fAdd_r0) (.seq (.reg fAdd_r1) (.seq (.reg fAdd_r2) (.seq (.seq (.reg fAdd_r3) (.block 0 (.loop fAdd_l1))) (.keep [4, 5] (.seq (.reg fAdd_r8) .ret))))))
@[reducible] def fAdd_rs : List IRes := [.cell 4 (some 4)]
theorem fAdd_low : lowFunc Try.prog 42 [] [] = some ⟨fAdd.bare, fAdd_rs, 27⟩ := by kernel_rfl

@[reducible] def fReduce_r0 : List (DOper × List Nat) := [
  o1 2 (.alloc 62 [(.int .u64 0), (.int .u64 0), (.int .u64 0), (.int .u64 0)]) []]
@[reducible] def fReduce_r1 : List (DOper × List Nat) := [
  o1 3 (.alloc 62 [(.int .u64 0), (.int .u64 0), (.int .u64 0), (.int .u64 0)]) []]
@[reducible] def fReduce_r2 : List (DOper × List Nat) := [
  o1 5 (.mv (.t 0)) [],
  o1 6 (.len true (.t 5)) [5],
  o1 7 (.bin false .mul (.k (.int .i64 8)) (.t 6)) [6],
  o1 8 (.bin false .sub (.t 7) (.k (.int .i64 1))) [7],
  o1 4 (.mv (.t 8)) [8]]
@[reducible] def fReduce_r3 : List (DOper × List Nat) := [
  o1 9 (.mv (.t 4)) [],
  o1 10 (.bin false .geq (.t 9) (.k (.int .i64 0))) [9]]
@[reducible] def fReduce_k0 : KCode := (.keep [2, 3] (.exit 0))
@[reducible] def fReduce_r4 : List (DOper × List Nat) := [
  o1 13 (.load (some 4) (.t 3)) [],
  o1 14 (.load (some 4) (.t 3)) [],
  o1 15 (.call 42 [(.t 13), (.t 14)]) [13, 14],
  (⟨⟨none, none, .store 4 (.t 3) (.t 15)⟩, 0, []⟩, [15])]
@[reducible] def fReduce_r5 : List (DOper × List Nat) := [
  o1 16 (.mv (.t 0)) [],
  o1 17 (.mv (.t 4)) [],
  o1 18 (.bin false .quo (.t 17) (.k (.int .i64 8))) [17],
  o1 19 (.idxS 1 (.t 16) (.t 18)) [16, 18],
  o1 20 (.load none (.t 19)) [19],
  o1 21 (.mv (.t 4)) [],
  o1 22 (.bin false .rem (.t 21) (.k (.int .i64 8))) [21],
  o1 23 (.bin false .shr (.t 20) (.t 22)) [20, 22],
  o1 24 (.bin false .and (.t 23) (.k (.int .u8 1))) [23],
  o1 25 (.bin false .eql (.t 24) (.k (.int .u8 1))) [24]]
@[reducible] def fReduce_r6 : List (DOper × List Nat) := [
  o1 26 (.load (some 4) (.t 3)) [],
  o1 27 (.build [(.int .u64 0), (.int .u64 0), (.int .u64 0), (.int .u64 0)] [(0, 1, (.k (.int .u64 1)))]) [],
  o1 28 (.call 42 [(.t 26), (.t 27)]) [26, 27],
  (⟨⟨none, none, .store 4 (.t 3) (.t 28)⟩, 0, []⟩, [28])]
@[reducible] def fReduce_k1 : KCode := (.kill [25] (.reg fReduce_r6))
@[reducible] def fReduce_r7 : List (DOper × List Nat) := [
  o1 11 (.mv (.t 4)) [4],
  o1 12 (.bin false .sub (.t 11) (.k (.int .i64 1))) [11],
  o1 4 (.mv (.t 12)) [12]]
/-- live: [0, 2, 3, 4] -/
@[reducible] def fReduce_l2 : KCode := (.seq (.seq (.reg fReduce_r3) (.cond (.t 10) (.kill [10] .skip) fReduce_k0)) (.kill [9, 10] (.seq (.block 1 (.seq (.reg fReduce_r4) (.seq (.reg fReduce_r5) (.cond (.t 25) fReduce_k1 (.kill [25] .skip))))) (.keep [0, 2, 3, 4] (.reg fReduce_r7)))))
@[reducible] def fReduce_r8 : List (DOper × List Nat) := [
  o1 29 (.load (some 4) (.t 3)) [3],
  (⟨⟨none, none, .store 4 (.t 2) (.t 29)⟩, 0, []⟩, [29])]
/-- bosun/scalar.Reduce -/
@[reducible] def fReduce : KCode := (.seq (.reg fReduce_r0) (.seq (.reg fReduce_r1) (.seq (.seq (.reg fReduce_r2) (.block 0 (.loop fReduce_l2))) (.keep [2, 3] (.seq (.reg fReduce_r8) .ret)))))
@[reducible] def fReduce_rs : List IRes := [.cell 2 (some 4)]
theorem fReduce_low : lowFunc Try.prog 40 [] [] = some ⟨fReduce.bare, fReduce_rs, 30⟩ := by kernel_rfl

end Go.Proofs.Ythgibibeoapfbaa
