/-
  Codes of functions.
-/
import Derived.Test.YtcmjfjomfdljkaaN2
import Derived.Test.YtcmjfjomfdljkaaRows
set_option linter.unusedSimpArgs false
set_option linter.unusedVariables false
set_option linter.unusedSectionVars false
namespace Go.Proofs.Ytcmjfjomfdljkaa
open Go.Fw
@[reducible] def fLess_r0 : List (DOper × List Nat) := [
  o1 2 (.box 28 (.t 0)) [0],
  o1 3 (.box 28 (.t 1)) [1],
  o1 4 (.mv (.k (.bool false))) [4]]
@[reducible] def fLess_r1 : List (DOper × List Nat) := [
  o1 5 (.mv (.k (.int .i64 3))) []]
@[reducible] def fLess_r2 : List (DOper × List Nat) := [
  o1 6 (.mv (.t 5)) [],
  o1 7 (.bin false .geq (.t 6) (.k (.int .i64 0))) [6]]
@[reducible] def fLess_r3 : List (DOper × List Nat) := [
  o1 10 (.mv (.t 5)) [],
  o2 11 1 (.idxA 4 1 (.t 2) (.t 10)) [10],
  o2 12 2 (.load none (.t 11)) [11],
  o2 13 3 (.mv (.t 5)) [],
  o2 14 4 (.idxA 4 1 (.t 3) (.t 13)) [13],
  o2 15 5 (.load none (.t 14)) [14],
  o2 16 6 (.bin false .neq (.t 12) (.t 15)) [12, 15]]
@[reducible] def fLess_r4 : List (DOper × List Nat) := [
  o1 17 (.mv (.t 5)) [],
  o2 18 1 (.idxA 4 1 (.t 2) (.t 17)) [2, 17],
  o2 19 2 (.load none (.t 18)) [18],
  o2 20 3 (.mv (.t 5)) [5],
  o2 21 4 (.idxA 4 1 (.t 3) (.t 20)) [3, 20],
  o2 22 5 (.load none (.t 21)) [21],
  o2 23 6 (.bin false .lss (.t 19) (.t 22)) [19, 22],
  o2 4 7 (.mv (.t 23)) [23]]
@[reducible] def fLess_k0 : KCode := (.kill [16] (.seq (.draw fLess_r4) .ret))
@[reducible] def fLess_r5 : List (DOper × List Nat) := [
  o1 8 (.mv (.t 5)) [5],
  o1 9 (.bin false .sub (.t 8) (.k (.int .i64 1))) [8],
  o1 5 (.mv (.t 9)) [9]]
/-- live: [2, 3, 5] -/
@[reducible] def fLess_l1 : KCode := (.seq (.seq (.reg fLess_r2) (.cond (.t 7) (.kill [7] .skip) (.keep [] (.exit 0)))) (.kill [6, 7] (.seq (.block 1 (.seq (.draw fLess_r3) (.cond (.t 16) fLess_k0 (.kill [16] .skip)))) (.keep [2, 3, 5] (.reg fLess_r5)))))
@[reducible] def fLess_r6 : List (DOper × List Nat) := [
  o1 4 (.mv (.k (.bool false))) []]
/-- bosun/scalar.less -/
@[reducible] def fLess : KCode := (.seq (.reg fLess_r0) (.seq (.seq (.reg fLess_r1) (.block 0 (.loop fLess_l1))) (.keep [] (.seq (.reg fLess_r6) .ret))))
@[reducible] def fLess_rs : List IRes := [.tmp 4]
theorem fLess_low : lowFunc Try.prog 51 [] [] = some ⟨fLess.bare, fLess_rs, 24⟩ := by kernel_rfl

@[reducible] def fOnce_r0 : List (DOper × List Nat) := [
  o1 1 (.box 28 (.t 0)) [0],
  o1 2 (.alloc 28 [(.int .u64 0), (.int .u64 0), (.int .u64 0), (.int .u64 0)]) []]
@[reducible] def fOnce_r1 : List (DOper × List Nat) := [
  o1 7 (.load (some 4) (.t 1)) [],
  (⟨⟨(some 8), none, .call 49 []⟩, 1, [0]⟩, []),
  o2 9 2 (.call 51 [(.t 7), (.t 8)]) [7, 8]]
@[reducible] def fOnce_r2 : List (DOper × List Nat) := [
  o1 10 (.load (some 4) (.t 1)) [1],
  (⟨⟨none, none, .store 4 (.t 2) (.t 10)⟩, 0, []⟩, [10])]
@[reducible] def fOnce_k0 : KCode := (.kill [9] (.seq (.reg fOnce_r2) .ret))
@[reducible] def fOnce_r3 : List (DOper × List Nat) := [
  o1 3 (.alloc 28 [(.int .u64 0), (.int .u64 0), (.int .u64 0), (.int .u64 0)]) []]
@[reducible] def fOnce_r4 : List (DOper × List Nat) := [
  o1 4 (.mv (.k (.int .u64 0))) []]
@[reducible] def fOnce_r5 : List (DOper × List Nat) := [
  o1 11 (.call 49 []) [],
  o1 12 (.mv (.k (.int .i64 0))) []]
@[reducible] def fOnce_r6 : List (DOper × List Nat) := [
  o1 13 (.bin false .lss (.t 12) (.k (.int .i64 4))) []]
@[reducible] def fOnce_k1 : KCode := (.keep [2, 3] (.exit 0))
@[reducible] def fOnce_r7 : List (DOper × List Nat) := [
  o1 14 (.mv (.t 12)) [],
  o1 15 (.ixA 4 1 none (.t 11) (.t 12)) [],
  o1 5 (.mv (.t 14)) [14],
  o1 6 (.mv (.t 15)) [15]]
@[reducible] def fOnce_r8 : List (DOper × List Nat) := [
  o1 17 (.mv (.t 5)) [],
  o1 18 (.mv (.t 5)) [5],
  o1 19 (.idxA 4 1 (.t 1) (.t 18)) [18],
  o1 20 (.load none (.t 19)) [19],
  o1 21 (.mv (.t 6)) [6],
  o1 22 (.mv (.t 4)) [4],
  o1 23 (.call 67 [(.t 20), (.t 21), (.t 22)]) [20, 21, 22],
  o1 16 (.mv (.t 23)) [23],
  o1 24 (.extract 0 (.t 16)) [],
  o1 25 (.extract 1 (.t 16)) [16],
  o1 26 (.idxA 4 1 (.t 3) (.t 17)) [17],
  (⟨⟨none, none, .store 1 (.t 26) (.t 24)⟩, 0, []⟩, [24, 26]),
  o1 4 (.mv (.t 25)) [25]]
@[reducible] def fOnce_r9 : List (DOper × List Nat) := [
  o1 27 (.bin false .add (.t 12) (.k (.int .i64 1))) [12],
  o1 12 (.mv (.t 27)) [27]]
/-- live: [1, 2, 3, 4, 11, 12] -/
@[reducible] def fOnce_l2 : KCode := (.seq (.reg fOnce_r6) (.seq (.cond (.t 13) (.kill [13] .skip) fOnce_k1) (.kill [13] (.seq (.block 1 (.seq (.reg fOnce_r7) (.reg fOnce_r8))) (.keep [1, 2, 3, 4, 11, 12] (.reg fOnce_r9))))))
@[reducible] def fOnce_r10 : List (DOper × List Nat) := [
  o1 28 (.load (some 4) (.t 3)) [3],
  (⟨⟨none, none, .store 4 (.t 2) (.t 28)⟩, 0, []⟩, [28])]
/-- bosun/scalar.once -/
@[reducible] def fOnce : KCode := (.seq (.reg fOnce_r0) (.seq (.seq (.draw fOnce_r1) (.cond (.t 9) fOnce_k0 (.kill [9] .skip))) (.keep [1, 2] (.seq (.reg fOnce_r3) (.seq (.reg fOnce_r4) (.seq (.seq (.reg fOnce_r5) (.block 0 (.loop fOnce_l2))) (.keep [2, 3] (.seq (.reg fOnce_r10) .ret))))))))
@[reducible] def fOnce_rs : List IRes := [.cell 2 (some 4)]
theorem fOnce_low : lowFunc Try.prog 57 [] [] = some ⟨fOnce.bare, fOnce_rs, 29⟩ := by kernel_rfl

@[reducible] def fAdd_r0 : List (DOper × List Nat) := [
  o1 2 (.box 28 (.t 0)) [0],
  o1 3 (.box 28 (.t 1)) [1],
  o1 4 (.alloc 28 [(.int .u64 0), (.int .u64 0), (.int .u64 0), (.int .u64 0)]) []]
@[reducible] def fAdd_r1 : List (DOper × List Nat) := [
  o1 5 (.alloc 28 [(.int .u64 0), (.int .u64 0), (.int .u64 0), (.int .u64 0)]) []]
@[reducible] def fAdd_r2 : List (DOper × List Nat) := [
  o1 6 (.mv (.k (.int .u64 0))) []]
@[reducible] def fAdd_r3 : List (DOper × List Nat) := [
  o1 8 (.mv (.k (.int .i64 0))) []]
@[reducible] def fAdd_r4 : List (DOper × List Nat) := [
  o1 9 (.bin false .lss (.t 8) (.k (.int .i64 4))) []]
@[reducible] def fAdd_k0 : KCode := (.keep [4, 5] (.exit 0))
@[reducible] def fAdd_r5 : List (DOper × List Nat) := [
  o1 10 (.mv (.t 8)) [],
  o1 7 (.mv (.t 10)) [10]]
@[reducible] def fAdd_r6 : List (DOper × List Nat) := [
  o1 12 (.mv (.t 7)) [],
  o2 13 1 (.mv (.t 7)) [],
  o2 14 2 (.idxA 4 1 (.t 2) (.t 13)) [13],
  o2 15 3 (.load none (.t 14)) [14],
  o2 16 4 (.mv (.t 7)) [7],
  o2 17 5 (.idxA 4 1 (.t 3) (.t 16)) [16],
  o2 18 6 (.load none (.t 17)) [17],
  o2 19 7 (.mv (.t 6)) [6],
  o2 20 8 (.call 56 [(.t 15), (.t 18), (.t 19)]) [15, 18, 19],
  o2 11 9 (.mv (.t 20)) [20],
  o2 21 10 (.extract 0 (.t 11)) [],
  o2 22 11 (.extract 1 (.t 11)) [11],
  o2 23 12 (.idxA 4 1 (.t 5) (.t 12)) [12],
  (⟨⟨none, none, .store 1 (.t 23) (.t 21)⟩, 13, []⟩, [21, 23]),
  o2 6 14 (.mv (.t 22)) [22]]
@[reducible] def fAdd_r7 : List (DOper × List Nat) := [
  o1 24 (.bin false .add (.t 8) (.k (.int .i64 1))) [8],
  o1 8 (.mv (.t 24)) [24]]
/-- live: [2, 3, 4, 5, 6, 8] -/
@[reducible] def fAdd_l1 : KCode := (.seq (.reg fAdd_r4) (.seq (.cond (.t 9) (.kill [9] .skip) fAdd_k0) (.kill [9] (.seq (.block 1 (.seq (.reg fAdd_r5) (.draw fAdd_r6))) (.keep [2, 3, 4, 5, 6, 8] (.reg fAdd_r7))))))
@[reducible] def fAdd_r8 : List (DOper × List Nat) := [
  o1 25 (.load (some 4) (.t 5)) [5],
  o1 26 (.call 57 [(.t 25)]) [25],
  (⟨⟨none, none, .store 4 (.t 4) (.t 26)⟩, 0, []⟩, [26])]
/-- bosun/scalar.Add -/
@[reducible] def fAdd : KCode := (.seq (.reg fAdd_r0) (.seq (.reg fAdd_r1) (.seq (.reg fAdd_r2) (.seq (.seq (.reg fAdd_r3) (.block 0 (.loop fAdd_l1))) (.keep [4, 5] (.seq (.reg fAdd_r8) .ret))))))
@[reducible] def fAdd_rs : List IRes := [.cell 4 (some 4)]
theorem fAdd_low : lowFunc Try.prog 18 [] [] = some ⟨fAdd.bare, fAdd_rs, 27⟩ := by kernel_rfl

@[reducible] def fMul_r0 : List (DOper × List Nat) := [
  o1 2 (.box 28 (.t 0)) [0],
  o1 3 (.box 28 (.t 1)) [1],
  o1 4 (.alloc 28 [(.int .u64 0), (.int .u64 0), (.int .u64 0), (.int .u64 0)]) []]
@[reducible] def fMul_r1 : List (DOper × List Nat) := [
  o1 5 (.alloc 28 [(.int .u64 0), (.int .u64 0), (.int .u64 0), (.int .u64 0)]) []]
@[reducible] def fMul_r2 : List (DOper × List Nat) := [
  o1 6 (.mv (.k (.int .i64 255))) []]
@[reducible] def fMul_r3 : List (DOper × List Nat) := [
  o1 7 (.mv (.t 6)) [],
  o1 8 (.bin false .geq (.t 7) (.k (.int .i64 0))) [7]]
@[reducible] def fMul_k0 : KCode := (.keep [4, 5] (.exit 0))
@[reducible] def fMul_r4 : List (DOper × List Nat) := [
  o1 11 (.load (some 4) (.t 5)) [],
  o1 12 (.load (some 4) (.t 5)) [],
  o1 13 (.call 18 [(.t 11), (.t 12)]) [11, 12],
  (⟨⟨none, none, .store 4 (.t 5) (.t 13)⟩, 0, []⟩, [13])]
@[reducible] def fMul_r5 : List (DOper × List Nat) := [
  o1 14 (.load (some 4) (.t 3)) [],
  o1 15 (.mv (.t 6)) [],
  o1 16 (.call 22 [(.t 14), (.t 15)]) [14, 15]]
@[reducible] def fMul_r6 : List (DOper × List Nat) := [
  o1 17 (.load (some 4) (.t 5)) [],
  o1 18 (.load (some 4) (.t 2)) [],
  o1 19 (.call 18 [(.t 17), (.t 18)]) [17, 18],
  (⟨⟨none, none, .store 4 (.t 5) (.t 19)⟩, 0, []⟩, [19])]
@[reducible] def fMul_k1 : KCode := (.kill [16] (.reg fMul_r6))
@[reducible] def fMul_r7 : List (DOper × List Nat) := [
  o1 9 (.mv (.t 6)) [6],
  o1 10 (.bin false .sub (.t 9) (.k (.int .i64 1))) [9],
  o1 6 (.mv (.t 10)) [10]]
/-- live: [2, 3, 4, 5, 6] -/
@[reducible] def fMul_l2 : KCode := (.seq (.seq (.reg fMul_r3) (.cond (.t 8) (.kill [8] .skip) fMul_k0)) (.kill [7, 8] (.seq (.block 1 (.seq (.reg fMul_r4) (.seq (.reg fMul_r5) (.cond (.t 16) fMul_k1 (.kill [16] .skip))))) (.keep [2, 3, 4, 5, 6] (.reg fMul_r7)))))
@[reducible] def fMul_r8 : List (DOper × List Nat) := [
  o1 20 (.load (some 4) (.t 5)) [5],
  (⟨⟨none, none, .store 4 (.t 4) (.t 20)⟩, 0, []⟩, [20])]
/-- bosun/scalar.Mul -/
@[reducible] def fMul : KCode := (.seq (.reg fMul_r0) (.seq (.reg fMul_r1) (.seq (.seq (.reg fMul_r2) (.block 0 (.loop fMul_l2))) (.keep [4, 5] (.seq (.reg fMul_r8) .ret)))))
@[reducible] def fMul_rs : List IRes := [.cell 4 (some 4)]
theorem fMul_low : lowFunc Try.prog 20 [] [] = some ⟨fMul.bare, fMul_rs, 21⟩ := by kernel_rfl

@[reducible] def fBit_r0 : List (DOper × List Nat) := [
  o1 2 (.box 28 (.t 0)) [0],
  o1 4 (.mv (.k (.bool false))) [4]]
@[reducible] def fBit_r1 : List (DOper × List Nat) := [
  o1 5 (.mv (.t 1)) [],
  o1 6 (.bin false .geq (.t 5) (.k (.int .i64 0))) [5],
  o1 7 (.mv (.t 6)) [6],
  (⟨⟨(some 8), (some (7, true)), .mv (.t 1)⟩, 0, []⟩, []),
  (⟨⟨(some 9), (some (7, true)), .bin false .lss (.t 8) (.k (.int .i64 256))⟩, 0, []⟩, [8]),
  o1 10 (.pick (.t 7) (.t 9) (.k (.bool false))) [7, 9],
  o1 11 (.mv (.t 10)) [10],
  (⟨⟨(some 12), (some (11, true)), .mv (.t 1)⟩, 0, []⟩, []),
  (⟨⟨(some 13), (some (11, true)), .bin false .quo (.t 12) (.k (.int .i64 64))⟩, 0, []⟩, [12]),
  (⟨⟨(some 14), (some (11, true)), .idxA 4 1 (.t 2) (.t 13)⟩, 0, []⟩, [2, 13]),
  (⟨⟨(some 15), (some (11, true)), .load none (.t 14)⟩, 0, []⟩, [14]),
  (⟨⟨(some 16), (some (11, true)), .mv (.t 1)⟩, 0, []⟩, [1]),
  (⟨⟨(some 17), (some (11, true)), .bin false .rem (.t 16) (.k (.int .i64 64))⟩, 0, []⟩, [16]),
  (⟨⟨(some 18), (some (11, true)), .bin false .shr (.t 15) (.t 17)⟩, 0, []⟩, [15, 17]),
  (⟨⟨(some 19), (some (11, true)), .bin false .and (.t 18) (.k (.int .u64 1))⟩, 0, []⟩, [18]),
  (⟨⟨(some 20), (some (11, true)), .bin false .eql (.t 19) (.k (.int .u64 1))⟩, 0, []⟩, [19]),
  o1 21 (.pick (.t 11) (.t 20) (.k (.bool false))) [11, 20],
  o1 4 (.mv (.t 21)) [21]]
/-- (bosun/scalar.Num).Bit -/
@[reducible] def fBit : KCode := (.seq (.reg fBit_r0) (.seq (.reg fBit_r1) .ret))
@[reducible] def fBit_rs : List IRes := [.tmp 4]
theorem fBit_low : lowFunc Try.prog 22 [] [] = some ⟨fBit.bare, fBit_rs, 22⟩ := by kernel_rfl

@[reducible] def fReduce_r0 : List (DOper × List Nat) := [
  o1 2 (.alloc 28 [(.int .u64 0), (.int .u64 0), (.int .u64 0), (.int .u64 0)]) []]
@[reducible] def fReduce_r1 : List (DOper × List Nat) := [
  o1 3 (.alloc 28 [(.int .u64 0), (.int .u64 0), (.int .u64 0), (.int .u64 0)]) []]
@[reducible] def fReduce_r2 : List (DOper × List Nat) := [
  o1 5 (.mv (.t 0)) [],
  o1 6 (.len true (.t 5)) [5],
  o1 7 (.bin false .mul (.k (.int .i64 8)) (.t 6)) [6],
  o1 8 (.bin false .sub (.t 7) (.k (.int .i64 1))) [7],
  o1 4 (.mv (.t 8)) [8]]
@[reducible] def fReduce_r3 : List (DOper × List Nat) := [
  o1 9 (.mv (.t 4)) [],
  o1 10 (.bin false .geq (.t 9) (.k (.int .i64 0))) [9]]
@[reducible] def fReduce_k0 : KCode := (.keep [2, 3] (.exit 0))
@[reducible] def fReduce_r4 : List (DOper × List Nat) := [
  o1 13 (.load (some 4) (.t 3)) [],
  o1 14 (.load (some 4) (.t 3)) [],
  o1 15 (.call 18 [(.t 13), (.t 14)]) [13, 14],
  (⟨⟨none, none, .store 4 (.t 3) (.t 15)⟩, 0, []⟩, [15])]
@[reducible] def fReduce_r5 : List (DOper × List Nat) := [
  o1 16 (.mv (.t 0)) [],
  o1 17 (.mv (.t 4)) [],
  o1 18 (.bin false .quo (.t 17) (.k (.int .i64 8))) [17],
  o1 19 (.idxS 1 (.t 16) (.t 18)) [16, 18],
  o1 20 (.load none (.t 19)) [19],
  o1 21 (.mv (.t 4)) [],
  o1 22 (.bin false .rem (.t 21) (.k (.int .i64 8))) [21],
  o1 23 (.bin false .shr (.t 20) (.t 22)) [20, 22],
  o1 24 (.bin false .and (.t 23) (.k (.int .u8 1))) [23],
  o1 25 (.bin false .eql (.t 24) (.k (.int .u8 1))) [24]]
@[reducible] def fReduce_r6 : List (DOper × List Nat) := [
  o1 26 (.load (some 4) (.t 3)) [],
  o1 27 (.build [(.int .u64 0), (.int .u64 0), (.int .u64 0), (.int .u64 0)] [(0, 1, (.k (.int .u64 1)))]) [],
  o1 28 (.call 18 [(.t 26), (.t 27)]) [26, 27],
  (⟨⟨none, none, .store 4 (.t 3) (.t 28)⟩, 0, []⟩, [28])]
@[reducible] def fReduce_k1 : KCode := (.kill [25] (.reg fReduce_r6))
@[reducible] def fReduce_r7 : List (DOper × List Nat) := [
  o1 11 (.mv (.t 4)) [4],
  o1 12 (.bin false .sub (.t 11) (.k (.int .i64 1))) [11],
  o1 4 (.mv (.t 12)) [12]]
/-- live: [0, 2, 3, 4] -/
@[reducible] def fReduce_l2 : KCode := (.seq (.seq (.reg fReduce_r3) (.cond (.t 10) (.kill [10] .skip) fReduce_k0)) (.kill [9, 10] (.seq (.block 1 (.seq (.reg fReduce_r4) (.seq (.reg fReduce_r5) (.cond (.t 25) fReduce_k1 (.kill [25] .skip))))) (.keep [0, 2, 3, 4] (.reg fReduce_r7)))))
@[reducible] def fReduce_r8 : List (DOper × List Nat) := [
  o1 29 (.load (some 4) (.t 3)) [3],
  (⟨⟨none, none, .store 4 (.t 2) (.t 29)⟩, 0, []⟩, [29])]
/-- bosun/scalar.Reduce -/
@[reducible] def fReduce : KCode := (.seq (.reg fReduce_r0) (.seq (.reg fReduce_r1) (.seq (.seq (.reg fReduce_r2) (.block 0 (.loop fReduce_l2))) (.keep [2, 3] (.seq (.reg fReduce_r8) .ret)))))
@[reducible] def fReduce_rs : List IRes := [.cell 2 (some 4)]
theorem fReduce_low : lowFunc Try.prog 13 [] [] = some ⟨fReduce.bare, fReduce_rs, 30⟩ := by kernel_rfl

@[reducible] def fDecode_r0 : List (DOper × List Nat) := [
  o1 1 (.box 22 (.t 0)) [0],
  o1 2 (.alloc 28 [(.int .u64 0), (.int .u64 0), (.int .u64 0), (.int .u64 0)]) [],
  o1 3 (.mv (.k (.int .i64 0))) [3]]
@[reducible] def fDecode_r1 : List (DOper × List Nat) := [
  o1 4 (.alloc 28 [(.int .u64 0), (.int .u64 0), (.int .u64 0), (.int .u64 0)]) []]
@[reducible] def fDecode_r2 : List (DOper × List Nat) := [
  o1 7 (.load (some 32) (.t 1)) [1],
  o1 8 (.mv (.k (.int .i64 0))) []]
@[reducible] def fDecode_r3 : List (DOper × List Nat) := [
  o1 9 (.bin false .lss (.t 8) (.k (.int .i64 32))) []]
@[reducible] def fDecode_k0 : KCode := (.keep [2, 4] (.exit 0))
@[reducible] def fDecode_r4 : List (DOper × List Nat) := [
  o1 10 (.mv (.t 8)) [],
  o1 11 (.ixA 32 1 none (.t 7) (.t 8)) [],
  o1 5 (.mv (.t 10)) [10],
  o1 6 (.mv (.t 11)) [11]]
@[reducible] def fDecode_r5 : List (DOper × List Nat) := [
  o1 12 (.mv (.t 5)) [],
  o2 13 1 (.bin false .quo (.t 12) (.k (.int .i64 8))) [12],
  o2 14 2 (.idxA 4 1 (.t 4) (.t 13)) [],
  o2 15 3 (.load none (.t 14)) [14],
  o2 16 4 (.mv (.t 6)) [6],
  o2 17 5 (.convI .u64 (.t 16)) [16],
  o2 18 6 (.mv (.t 5)) [5],
  o2 19 7 (.bin false .rem (.t 18) (.k (.int .i64 8))) [18],
  o2 20 8 (.bin false .mul (.k (.int .i64 8)) (.t 19)) [19],
  o2 21 9 (.bin false .shl (.t 17) (.t 20)) [17, 20],
  o2 22 10 (.bin false .or (.t 15) (.t 21)) [15, 21],
  o2 23 11 (.idxA 4 1 (.t 4) (.t 13)) [13],
  (⟨⟨none, none, .store 1 (.t 23) (.t 22)⟩, 12, []⟩, [22, 23])]
@[reducible] def fDecode_r6 : List (DOper × List Nat) := [
  o1 24 (.bin false .add (.t 8) (.k (.int .i64 1))) [8],
  o1 8 (.mv (.t 24)) [24]]
/-- live: [2, 4, 7, 8] -/
@[reducible] def fDecode_l1 : KCode := (.seq (.reg fDecode_r3) (.seq (.cond (.t 9) (.kill [9] .skip) fDecode_k0) (.kill [9] (.seq (.block 1 (.seq (.reg fDecode_r4) (.draw fDecode_r5))) (.keep [2, 4, 7, 8] (.reg fDecode_r6))))))
@[reducible] def fDecode_r7 : List (DOper × List Nat) := [
  o1 25 (.load (some 4) (.t 4)) [],
  (⟨⟨(some 26), none, .call 49 []⟩, 1, [0]⟩, []),
  o2 27 2 (.call 51 [(.t 25), (.t 26)]) [25, 26],
  o2 28 3 (.un .not (.t 27)) [27]]
@[reducible] def fDecode_r8 : List (DOper × List Nat) := [
  o1 29 (.build [(.int .u64 0), (.int .u64 0), (.int .u64 0), (.int .u64 0)] []) [],
  (⟨⟨none, none, .store 4 (.t 2) (.t 29)⟩, 0, []⟩, [29]),
  o1 3 (.mv (.k (.int .i64 7))) []]
@[reducible] def fDecode_k2 : KCode := (.keep [2] (.seq (.reg fDecode_r8) .ret))
@[reducible] def fDecode_r9 : List (DOper × List Nat) := [
  o1 30 (.load (some 4) (.t 4)) [4],
  (⟨⟨none, none, .store 4 (.t 2) (.t 30)⟩, 0, []⟩, [30]),
  o1 3 (.mv (.k (.int .i64 0))) []]
/-- bosun/scalar.Decode -/
@[reducible] def fDecode : KCode := (.seq (.reg fDecode_r0) (.seq (.reg fDecode_r1) (.seq (.seq (.reg fDecode_r2) (.block 0 (.loop fDecode_l1))) (.keep [2, 4] (.seq (.seq (.draw fDecode_r7) (.cond (.t 28) fDecode_k2 (.kill [28] .skip))) (.keep [2, 4] (.seq (.reg fDecode_r9) .ret)))))))
@[reducible] def fDecode_rs : List IRes := [.cell 2 (some 4), .tmp 3]
theorem fDecode_low : lowFunc Try.prog 12 [] [] = some ⟨fDecode.bare, fDecode_rs, 31⟩ := by kernel_rfl

@[reducible] def fEncode_r0 : List (DOper × List Nat) := [
  o1 1 (.box 28 (.t 0)) [0],
  o1 2 (.alloc 22 [(.int .u8 0), (.int .u8 0), (.int .u8 0), (.int .u8 0), (.int .u8 0), (.int .u8 0), (.int .u8 0), (.int .u8 0), (.int .u8 0), (.int .u8 0), (.int .u8 0), (.int .u8 0), (.int .u8 0), (.int .u8 0), (.int .u8 0), (.int .u8 0), (.int .u8 0), (.int .u8 0), (.int .u8 0), (.int .u8 0), (.int .u8 0), (.int .u8 0), (.int .u8 0), (.int .u8 0), (.int .u8 0), (.int .u8 0), (.int .u8 0), (.int .u8 0), (.int .u8 0), (.int .u8 0), (.int .u8 0), (.int .u8 0)]) []]
@[reducible] def fEncode_r1 : List (DOper × List Nat) := [
  o1 3 (.alloc 22 [(.int .u8 0), (.int .u8 0), (.int .u8 0), (.int .u8 0), (.int .u8 0), (.int .u8 0), (.int .u8 0), (.int .u8 0), (.int .u8 0), (.int .u8 0), (.int .u8 0), (.int .u8 0), (.int .u8 0), (.int .u8 0), (.int .u8 0), (.int .u8 0), (.int .u8 0), (.int .u8 0), (.int .u8 0), (.int .u8 0), (.int .u8 0), (.int .u8 0), (.int .u8 0), (.int .u8 0), (.int .u8 0), (.int .u8 0), (.int .u8 0), (.int .u8 0), (.int .u8 0), (.int .u8 0), (.int .u8 0), (.int .u8 0)]) []]
@[reducible] def fEncode_r2 : List (DOper × List Nat) := [
  o1 5 (.mv (.k (.int .i64 0))) []]
@[reducible] def fEncode_r3 : List (DOper × List Nat) := [
  o1 6 (.bin false .lss (.t 5) (.k (.int .i64 32))) []]
@[reducible] def fEncode_k0 : KCode := (.keep [2, 3] (.exit 0))
@[reducible] def fEncode_r4 : List (DOper × List Nat) := [
  o1 7 (.mv (.t 5)) [],
  o1 4 (.mv (.t 7)) [7]]
@[reducible] def fEncode_r5 : List (DOper × List Nat) := [
  o1 8 (.mv (.t 4)) [],
  o1 9 (.mv (.t 4)) [],
  o1 10 (.bin false .quo (.t 9) (.k (.int .i64 8))) [9],
  o1 11 (.idxA 4 1 (.t 1) (.t 10)) [10],
  o1 12 (.load none (.t 11)) [11],
  o1 13 (.mv (.t 4)) [4],
  o1 14 (.bin false .rem (.t 13) (.k (.int .i64 8))) [13],
  o1 15 (.bin false .mul (.k (.int .i64 8)) (.t 14)) [14],
  o1 16 (.bin false .shr (.t 12) (.t 15)) [12, 15],
  o1 17 (.convI .u8 (.t 16)) [16],
  o1 18 (.idxA 32 1 (.t 3) (.t 8)) [8],
  (⟨⟨none, none, .store 1 (.t 18) (.t 17)⟩, 0, []⟩, [17, 18])]
@[reducible] def fEncode_r6 : List (DOper × List Nat) := [
  o1 19 (.bin false .add (.t 5) (.k (.int .i64 1))) [5],
  o1 5 (.mv (.t 19)) [19]]
/-- live: [1, 2, 3, 5] -/
@[reducible] def fEncode_l1 : KCode := (.seq (.reg fEncode_r3) (.seq (.cond (.t 6) (.kill [6] .skip) fEncode_k0) (.kill [6] (.seq (.block 1 (.seq (.reg fEncode_r4) (.reg fEncode_r5))) (.keep [1, 2, 3, 5] (.reg fEncode_r6))))))
@[reducible] def fEncode_r7 : List (DOper × List Nat) := [
  o1 20 (.load (some 32) (.t 3)) [3],
  (⟨⟨none, none, .store 32 (.t 2) (.t 20)⟩, 0, []⟩, [20])]
/-- (bosun/scalar.Num).Encode -/
@[reducible] def fEncode : KCode := (.seq (.reg fEncode_r0) (.seq (.reg fEncode_r1) (.seq (.seq (.reg fEncode_r2) (.block 0 (.loop fEncode_l1))) (.keep [2, 3] (.seq (.reg fEncode_r7) .ret)))))
@[reducible] def fEncode_rs : List IRes := [.cell 2 (some 32)]
theorem fEncode_low : lowFunc Try.prog 16 [] [] = some ⟨fEncode.bare, fEncode_rs, 21⟩ := by kernel_rfl

@[reducible] def fOrder_r0 : List (DOper × List Nat) := [
  o1 0 (.alloc 28 [(.int .u64 0), (.int .u64 0), (.int .u64 0), (.int .u64 0)]) []]
@[reducible] def fOrder_r1 : List (DOper × List Nat) := [
  o1 1 (.build [(.int .u64 0), (.int .u64 0), (.int .u64 0), (.int .u64 0)] [(0, 1, (.k (.int .u64 6346243789798364141))), (1, 1, (.k (.int .u64 1503914060200516822))), (2, 1, (.k (.int .u64 0))), (3, 1, (.k (.int .u64 1152921504606846976)))]) [],
  (⟨⟨none, none, .store 4 (.t 0) (.t 1)⟩, 0, []⟩, [1])]
/-- bosun/scalar.Order -/
@[reducible] def fOrder : KCode := (.seq (.reg fOrder_r0) (.seq (.reg fOrder_r1) .ret))
@[reducible] def fOrder_rs : List IRes := [.cell 0 (some 4)]
theorem fOrder_low : lowFunc Try.prog 49 [] [] = some ⟨fOrder.bare, fOrder_rs, 2⟩ := by kernel_rfl

@[reducible] def fL_r0 : List (DOper × List Nat) := [
  o1 0 (.alloc 26 [(.int .u64 0), (.int .u64 0), (.int .u64 0), (.int .u64 0)]) []]
@[reducible] def fL_r1 : List (DOper × List Nat) := [
  o1 1 (.build [(.int .u64 0), (.int .u64 0), (.int .u64 0), (.int .u64 0)] [(0, 1, (.k (.int .u64 6346243789798364141))), (1, 1, (.k (.int .u64 1503914060200516822))), (2, 1, (.k (.int .u64 0))), (3, 1, (.k (.int .u64 1152921504606846976)))]) [],
  (⟨⟨none, none, .store 4 (.t 0) (.t 1)⟩, 0, []⟩, [1])]
/-- bosun/bosunref05.L -/
@[reducible] def fL : KCode := (.seq (.reg fL_r0) (.seq (.reg fL_r1) .ret))
@[reducible] def fL_rs : List IRes := [.cell 0 (some 4)]
theorem fL_low : lowFunc Try.prog 50 [] [] = some ⟨fL.bare, fL_rs, 2⟩ := by kernel_rfl

@[reducible] def fBelow2_r0 : List (DOper × List Nat) := [
  o1 2 (.box 26 (.t 0)) [0],
  o1 3 (.box 26 (.t 1)) [1],
  o1 4 (.mv (.k (.bool false))) [4]]
@[reducible] def fBelow2_r1 : List (DOper × List Nat) := [
  o1 5 (.mv (.k (.int .i64 3))) []]
@[reducible] def fBelow2_r2 : List (DOper × List Nat) := [
  o1 6 (.mv (.t 5)) [],
  o1 7 (.bin false .geq (.t 6) (.k (.int .i64 0))) [6]]
@[reducible] def fBelow2_r3 : List (DOper × List Nat) := [
  o1 10 (.mv (.t 5)) [],
  o2 11 1 (.idxA 4 1 (.t 2) (.t 10)) [10],
  o2 12 2 (.load none (.t 11)) [11],
  o2 13 3 (.mv (.t 5)) [],
  o2 14 4 (.idxA 4 1 (.t 3) (.t 13)) [13],
  o2 15 5 (.load none (.t 14)) [14],
  o2 16 6 (.bin false .neq (.t 12) (.t 15)) [12, 15]]
@[reducible] def fBelow2_r4 : List (DOper × List Nat) := [
  o1 17 (.mv (.t 5)) [],
  o2 18 1 (.idxA 4 1 (.t 2) (.t 17)) [2, 17],
  o2 19 2 (.load none (.t 18)) [18],
  o2 20 3 (.mv (.t 5)) [5],
  o2 21 4 (.idxA 4 1 (.t 3) (.t 20)) [3, 20],
  o2 22 5 (.load none (.t 21)) [21],
  o2 23 6 (.bin false .lss (.t 19) (.t 22)) [19, 22],
  o2 4 7 (.mv (.t 23)) [23]]
@[reducible] def fBelow2_k0 : KCode := (.kill [16] (.seq (.draw fBelow2_r4) .ret))
@[reducible] def fBelow2_r5 : List (DOper × List Nat) := [
  o1 8 (.mv (.t 5)) [5],
  o1 9 (.bin false .sub (.t 8) (.k (.int .i64 1))) [8],
  o1 5 (.mv (.t 9)) [9]]
/-- live: [2, 3, 5] -/
@[reducible] def fBelow2_l1 : KCode := (.seq (.seq (.reg fBelow2_r2) (.cond (.t 7) (.kill [7] .skip) (.keep [] (.exit 0)))) (.kill [6, 7] (.seq (.block 1 (.seq (.draw fBelow2_r3) (.cond (.t 16) fBelow2_k0 (.kill [16] .skip)))) (.keep [2, 3, 5] (.reg fBelow2_r5)))))
@[reducible] def fBelow2_r6 : List (DOper × List Nat) := [
  o1 4 (.mv (.k (.bool false))) []]
/-- bosun/bosunref05.below -/
@[reducible] def fBelow2 : KCode := (.seq (.reg fBelow2_r0) (.seq (.seq (.reg fBelow2_r1) (.block 0 (.loop fBelow2_l1))) (.keep [] (.seq (.reg fBelow2_r6) .ret))))
@[reducible] def fBelow2_rs : List IRes := [.tmp 4]
theorem fBelow2_low : lowFunc Try.prog 54 [] [] = some ⟨fBelow2.bare, fBelow2_rs, 24⟩ := by kernel_rfl

@[reducible] def fBelow_r0 : List (DOper × List Nat) := [
  o1 1 (.box 26 (.t 0)) [0],
  o1 2 (.mv (.k (.bool false))) [2]]
@[reducible] def fBelow_r1 : List (DOper × List Nat) := [
  o1 3 (.load (some 4) (.t 1)) [1],
  (⟨⟨(some 4), none, .call 50 []⟩, 1, [0]⟩, []),
  o2 5 2 (.call 54 [(.t 3), (.t 4)]) [3, 4],
  o2 2 3 (.mv (.t 5)) [5]]
/-- bosun/bosunref05.Below -/
@[reducible] def fBelow : KCode := (.seq (.reg fBelow_r0) (.seq (.draw fBelow_r1) .ret))
@[reducible] def fBelow_rs : List IRes := [.tmp 2]
theorem fBelow_low : lowFunc Try.prog 15 [] [] = some ⟨fBelow.bare, fBelow_rs, 6⟩ := by kernel_rfl

@[reducible] def fRLess_r0 : List (DOper × List Nat) := [
  o1 2 (.box 26 (.t 0)) [0],
  o1 3 (.box 26 (.t 1)) [1],
  o1 4 (.alloc 26 [(.int .u64 0), (.int .u64 0), (.int .u64 0), (.int .u64 0)]) []]
@[reducible] def fRLess_r1 : List (DOper × List Nat) := [
  o1 5 (.mv (.k (.int .u64 0))) []]
@[reducible] def fRLess_r2 : List (DOper × List Nat) := [
  o1 6 (.mv (.k (.int .i64 0))) []]
@[reducible] def fRLess_r3 : List (DOper × List Nat) := [
  o1 9 (.mv (.t 6)) [],
  o1 10 (.bin false .lss (.t 9) (.k (.int .i64 4))) [9]]
@[reducible] def fRLess_k0 : KCode := (.keep [2, 4] (.exit 0))
@[reducible] def fRLess_r4 : List (DOper × List Nat) := [
  o1 13 (.mv (.t 6)) [],
  o2 14 1 (.idxA 4 1 (.t 2) (.t 13)) [13],
  o2 15 2 (.load none (.t 14)) [14],
  o2 16 3 (.mv (.t 6)) [],
  o2 17 4 (.idxA 4 1 (.t 3) (.t 16)) [16],
  o2 18 5 (.load none (.t 17)) [17],
  o2 19 6 (.bin false .sub (.t 15) (.t 18)) [15, 18],
  o2 20 7 (.mv (.t 5)) [],
  o2 21 8 (.bin false .sub (.t 19) (.t 20)) [19, 20],
  o2 7 9 (.mv (.t 21)) [21]]
@[reducible] def fRLess_r5 : List (DOper × List Nat) := [
  o1 22 (.mv (.t 6)) [],
  o2 23 1 (.idxA 4 1 (.t 2) (.t 22)) [22],
  o2 24 2 (.load none (.t 23)) [23],
  o2 25 3 (.mv (.t 6)) [],
  o2 26 4 (.idxA 4 1 (.t 3) (.t 25)) [25],
  o2 27 5 (.load none (.t 26)) [26],
  o2 28 6 (.bin false .lss (.t 24) (.t 27)) [24, 27],
  o2 29 7 (.mv (.t 28)) [28],
  (⟨⟨(some 30), (some (29, false)), .mv (.t 6)⟩, 8, []⟩, []),
  (⟨⟨(some 31), (some (29, false)), .idxA 4 1 (.t 2) (.t 30)⟩, 9, []⟩, [30]),
  (⟨⟨(some 32), (some (29, false)), .load none (.t 31)⟩, 10, []⟩, [31]),
  (⟨⟨(some 33), (some (29, false)), .mv (.t 6)⟩, 11, []⟩, []),
  (⟨⟨(some 34), (some (29, false)), .idxA 4 1 (.t 3) (.t 33)⟩, 12, []⟩, [33]),
  (⟨⟨(some 35), (some (29, false)), .load none (.t 34)⟩, 13, []⟩, [34]),
  (⟨⟨(some 36), (some (29, false)), .bin false .eql (.t 32) (.t 35)⟩, 14, []⟩, [32, 35]),
  (⟨⟨(some 37), (some (29, false)), .mv (.t 36)⟩, 15, []⟩, [36]),
  (⟨⟨(some 38), (some (37, true)), .mv (.t 5)⟩, 16, []⟩, [5]),
  (⟨⟨(some 39), (some (37, true)), .bin false .eql (.t 38) (.k (.int .u64 1))⟩, 17, []⟩, [38]),
  (⟨⟨(some 40), (some (29, false)), .pick (.t 37) (.t 39) (.k (.bool false))⟩, 18, []⟩, [37, 39]),
  o2 41 19 (.pick (.t 29) (.k (.bool true)) (.t 40)) [29, 40],
  o2 8 20 (.mv (.t 41)) [41]]
@[reducible] def fRLess_r6 : List (DOper × List Nat) := [
  o1 5 (.mv (.k (.int .u64 0))) []]
@[reducible] def fRLess_r7 : List (DOper × List Nat) := [
  o1 42 (.mv (.t 8)) [8]]
@[reducible] def fRLess_r8 : List (DOper × List Nat) := [
  o1 5 (.mv (.k (.int .u64 1))) []]
@[reducible] def fRLess_k1 : KCode := (.kill [5, 42] (.reg fRLess_r8))
@[reducible] def fRLess_r9 : List (DOper × List Nat) := [
  o1 43 (.mv (.t 6)) [],
  o1 44 (.mv (.t 7)) [7],
  o1 45 (.idxA 4 1 (.t 2) (.t 43)) [43],
  (⟨⟨none, none, .store 1 (.t 45) (.t 44)⟩, 0, []⟩, [44, 45])]
@[reducible] def fRLess_r10 : List (DOper × List Nat) := [
  o1 11 (.mv (.t 6)) [6],
  o1 12 (.bin false .add (.t 11) (.k (.int .i64 1))) [11],
  o1 6 (.mv (.t 12)) [12]]
/-- live: [2, 3, 4, 5, 6] -/
@[reducible] def fRLess_l2 : KCode := (.seq (.seq (.reg fRLess_r3) (.cond (.t 10) (.kill [10] .skip) fRLess_k0)) (.kill [9, 10] (.seq (.block 1 (.seq (.draw fRLess_r4) (.seq (.draw fRLess_r5) (.seq (.reg fRLess_r6) (.seq (.seq (.reg fRLess_r7) (.cond (.t 42) fRLess_k1 (.kill [42] .skip))) (.kill [8, 42] (.reg fRLess_r9))))))) (.keep [2, 3, 4, 5, 6] (.reg fRLess_r10)))))
@[reducible] def fRLess_r11 : List (DOper × List Nat) := [
  o1 46 (.load (some 4) (.t 2)) [2],
  (⟨⟨none, none, .store 4 (.t 4) (.t 46)⟩, 0, []⟩, [46])]
/-- bosun/bosunref05.less -/
@[reducible] def fRLess : KCode := (.seq (.reg fRLess_r0) (.seq (.reg fRLess_r1) (.seq (.seq (.reg fRLess_r2) (.block 0 (.loop fRLess_l2))) (.keep [2, 4] (.seq (.reg fRLess_r11) .ret)))))
@[reducible] def fRLess_rs : List IRes := [.cell 4 (some 4)]
theorem fRLess_low : lowFunc Try.prog 58 [] [] = some ⟨fRLess.bare, fRLess_rs, 47⟩ := by kernel_rfl

@[reducible] def fDouble_r0 : List (DOper × List Nat) := [
  o1 2 (.box 26 (.t 0)) [0],
  o1 4 (.alloc 26 [(.int .u64 0), (.int .u64 0), (.int .u64 0), (.int .u64 0)]) []]
@[reducible] def fDouble_r1 : List (DOper × List Nat) := [
  o1 8 (.mv (.t 1)) [1],
  o1 9 (.convI .u64 (.t 8)) [8],
  o1 5 (.mv (.t 9)) [9]]
@[reducible] def fDouble_r2 : List (DOper × List Nat) := [
  o1 6 (.mv (.k (.int .i64 0))) []]
@[reducible] def fDouble_r3 : List (DOper × List Nat) := [
  o1 10 (.mv (.t 6)) [],
  o1 11 (.bin false .lss (.t 10) (.k (.int .i64 4))) [10]]
@[reducible] def fDouble_k0 : KCode := (.keep [2, 4] (.exit 0))
@[reducible] def fDouble_r4 : List (DOper × List Nat) := [
  o1 14 (.mv (.t 6)) [],
  o1 15 (.idxA 4 1 (.t 2) (.t 14)) [14],
  o1 16 (.load none (.t 15)) [15],
  o1 17 (.bin false .shr (.t 16) (.k (.int .u64 63))) [16],
  o1 7 (.mv (.t 17)) [17]]
@[reducible] def fDouble_r5 : List (DOper × List Nat) := [
  o1 18 (.mv (.t 6)) [],
  o1 19 (.mv (.t 6)) [],
  o1 20 (.idxA 4 1 (.t 2) (.t 19)) [19],
  o1 21 (.load none (.t 20)) [20],
  o1 22 (.bin false .mul (.t 21) (.k (.int .u64 2))) [21],
  o1 23 (.mv (.t 5)) [5],
  o1 24 (.bin false .add (.t 22) (.t 23)) [22, 23],
  o1 25 (.idxA 4 1 (.t 2) (.t 18)) [18],
  (⟨⟨none, none, .store 1 (.t 25) (.t 24)⟩, 0, []⟩, [24, 25])]
@[reducible] def fDouble_r6 : List (DOper × List Nat) := [
  o1 26 (.mv (.t 7)) [7],
  o1 5 (.mv (.t 26)) [26]]
@[reducible] def fDouble_r7 : List (DOper × List Nat) := [
  o1 12 (.mv (.t 6)) [6],
  o1 13 (.bin false .add (.t 12) (.k (.int .i64 1))) [12],
  o1 6 (.mv (.t 13)) [13]]
/-- live: [2, 4, 5, 6] -/
@[reducible] def fDouble_l1 : KCode := (.seq (.seq (.reg fDouble_r3) (.cond (.t 11) (.kill [11] .skip) fDouble_k0)) (.kill [10, 11] (.seq (.block 1 (.seq (.reg fDouble_r4) (.seq (.reg fDouble_r5) (.reg fDouble_r6)))) (.keep [2, 4, 5, 6] (.reg fDouble_r7)))))
@[reducible] def fDouble_r8 : List (DOper × List Nat) := [
  o1 27 (.load (some 4) (.t 2)) [],
  (⟨⟨(some 28), none, .call 50 []⟩, 1, [0]⟩, []),
  o2 29 2 (.call 54 [(.t 27), (.t 28)]) [27, 28]]
@[reducible] def fDouble_r9 : List (DOper × List Nat) := [
  o1 30 (.load (some 4) (.t 2)) [2],
  (⟨⟨none, none, .store 4 (.t 4) (.t 30)⟩, 0, []⟩, [30])]
@[reducible] def fDouble_k2 : KCode := (.kill [29] (.seq (.reg fDouble_r9) .ret))
@[reducible] def fDouble_r10 : List (DOper × List Nat) := [
  o1 31 (.load (some 4) (.t 2)) [2],
  (⟨⟨(some 32), none, .call 50 []⟩, 1, [0]⟩, []),
  o2 33 2 (.call 58 [(.t 31), (.t 32)]) [31, 32],
  (⟨⟨none, none, .store 4 (.t 4) (.t 33)⟩, 3, []⟩, [33])]
/-- bosun/bosunref05.double -/
@[reducible] def fDouble : KCode := (.seq (.reg fDouble_r0) (.seq (.reg fDouble_r1) (.seq (.seq (.reg fDouble_r2) (.block 0 (.loop fDouble_l1))) (.keep [2, 4] (.seq (.seq (.draw fDouble_r8) (.cond (.t 29) fDouble_k2 (.kill [29] .skip))) (.keep [2, 4] (.seq (.draw fDouble_r10) .ret)))))))
@[reducible] def fDouble_rs : List IRes := [.cell 4 (some 4)]
theorem fDouble_low : lowFunc Try.prog 53 [] [] = some ⟨fDouble.bare, fDouble_rs, 34⟩ := by kernel_rfl

@[reducible] def fBits_r0 : List (DOper × List Nat) := [
  o1 2 (.mv (.k (.list 1 ⟨true, true, false⟩ []))) [2]]
@[reducible] def fBits_r1 : List (DOper × List Nat) := [
  o1 3 (.mv (.k (.list 1 ⟨true, true, false⟩ []))) []]
@[reducible] def fBits_r2 : List (DOper × List Nat) := [
  o1 4 (.mv (.k (.int .i64 0))) []]
@[reducible] def fBits_r3 : List (DOper × List Nat) := [
  o1 5 (.mv (.t 4)) [],
  o1 6 (.mv (.t 0)) [],
  o1 7 (.len true (.t 6)) [6],
  o1 8 (.bin false .mul (.k (.int .i64 8)) (.t 7)) [7],
  o1 9 (.bin false .lss (.t 5) (.t 8)) [5, 8]]
@[reducible] def fBits_r4 : List (DOper × List Nat) := [
  o1 12 (.mv (.t 3)) [3],
  o1 13 (.mv (.t 0)) [],
  o1 14 (.mv (.t 4)) [],
  o1 15 (.bin false .quo (.t 14) (.k (.int .i64 8))) [14],
  o1 16 (.idxS 1 (.t 13) (.t 15)) [13, 15],
  o1 17 (.load none (.t 16)) [16],
  o1 18 (.mv (.t 4)) [],
  o1 19 (.bin false .rem (.t 18) (.k (.int .i64 8))) [18],
  o1 20 (.bin false .shr (.t 17) (.t 19)) [17, 19],
  o1 21 (.bin false .rem (.t 20) (.k (.int .u8 2))) [20],
  o1 22 (.convI .i64 (.t 21)) [21],
  o1 23 (.buildF 3 1 [(.int .i64 0)] [(0, 1, (.t 22))]) [22],
  o1 24 (.appO 3 1 8 (.t 12) (.t 23)) [12, 23],
  o1 3 (.mv (.t 24)) [24]]
@[reducible] def fBits_r5 : List (DOper × List Nat) := [
  o1 10 (.mv (.t 4)) [4],
  o1 11 (.bin false .add (.t 10) (.k (.int .i64 1))) [10],
  o1 4 (.mv (.t 11)) [11]]
/-- live: [0, 3, 4] -/
@[reducible] def fBits_l0 : KCode := (.seq (.seq (.reg fBits_r3) (.cond (.t 9) (.kill [9] .skip) (.keep [3] (.exit 0)))) (.keep [0, 3, 4] (.seq (.block 1 (.reg fBits_r4)) (.keep [0, 3, 4] (.reg fBits_r5)))))
@[reducible] def fBits_r6 : List (DOper × List Nat) := [
  o1 25 (.mv (.t 3)) [3],
  o1 2 (.mv (.t 25)) [25]]
/-- bosun/bosunref05.Bits -/
@[reducible] def fBits : KCode := (.seq (.reg fBits_r0) (.seq (.reg fBits_r1) (.seq (.seq (.reg fBits_r2) (.block 0 (.loop fBits_l0))) (.keep [3] (.seq (.reg fBits_r6) .ret)))))
@[reducible] def fBits_rs : List IRes := [.tmp 2]
theorem fBits_low : lowFunc Try.prog 52 [] [] = some ⟨fBits.bare, fBits_rs, 26⟩ := by kernel_rfl

@[reducible] def fRReduce_r0 : List (DOper × List Nat) := [
  o1 2 (.alloc 26 [(.int .u64 0), (.int .u64 0), (.int .u64 0), (.int .u64 0)]) []]
@[reducible] def fRReduce_r1 : List (DOper × List Nat) := [
  o1 6 (.mv (.t 0)) [0],
  o1 7 (.call 52 [(.t 6)]) [6],
  o1 3 (.mv (.t 7)) [7]]
@[reducible] def fRReduce_r2 : List (DOper × List Nat) := [
  o1 4 (.alloc 26 [(.int .u64 0), (.int .u64 0), (.int .u64 0), (.int .u64 0)]) []]
@[reducible] def fRReduce_r3 : List (DOper × List Nat) := [
  o1 8 (.mv (.t 3)) [],
  o1 9 (.len true (.t 8)) [8],
  o1 10 (.bin false .sub (.t 9) (.k (.int .i64 1))) [9],
  o1 5 (.mv (.t 10)) [10]]
@[reducible] def fRReduce_r4 : List (DOper × List Nat) := [
  o1 11 (.mv (.t 5)) [],
  o1 12 (.bin false .geq (.t 11) (.k (.int .i64 0))) [11]]
@[reducible] def fRReduce_k0 : KCode := (.keep [2, 4] (.exit 0))
@[reducible] def fRReduce_r5 : List (DOper × List Nat) := [
  o1 15 (.load (some 4) (.t 4)) [],
  o2 16 1 (.mv (.t 3)) [],
  o2 17 2 (.mv (.t 5)) [],
  o2 18 3 (.idxS 1 (.t 16) (.t 17)) [16, 17],
  o2 19 4 (.load none (.t 18)) [18],
  o2 20 5 (.call 53 [(.t 15), (.t 19)]) [15, 19],
  (⟨⟨none, none, .store 4 (.t 4) (.t 20)⟩, 6, []⟩, [20])]
@[reducible] def fRReduce_r6 : List (DOper × List Nat) := [
  o1 13 (.mv (.t 5)) [5],
  o1 14 (.bin false .sub (.t 13) (.k (.int .i64 1))) [13],
  o1 5 (.mv (.t 14)) [14]]
/-- live: [2, 3, 4, 5] -/
@[reducible] def fRReduce_l1 : KCode := (.seq (.seq (.reg fRReduce_r4) (.cond (.t 12) (.kill [12] .skip) fRReduce_k0)) (.kill [11, 12] (.seq (.block 1 (.draw fRReduce_r5)) (.keep [2, 3, 4, 5] (.reg fRReduce_r6)))))
@[reducible] def fRReduce_r7 : List (DOper × List Nat) := [
  o1 21 (.load (some 4) (.t 4)) [4],
  (⟨⟨none, none, .store 4 (.t 2) (.t 21)⟩, 0, []⟩, [21])]
/-- bosun/bosunref05.Reduce -/
@[reducible] def fRReduce : KCode := (.seq (.reg fRReduce_r0) (.seq (.reg fRReduce_r1) (.seq (.reg fRReduce_r2) (.seq (.seq (.reg fRReduce_r3) (.block 0 (.loop fRReduce_l1))) (.keep [2, 4] (.seq (.reg fRReduce_r7) .ret))))))
@[reducible] def fRReduce_rs : List IRes := [.cell 2 (some 4)]
theorem fRReduce_low : lowFunc Try.prog 14 [] [] = some ⟨fRReduce.bare, fRReduce_rs, 22⟩ := by kernel_rfl

@[reducible] def fAddL_r0 : List (DOper × List Nat) := [
  o1 2 (.box 26 (.t 0)) [0],
  o1 3 (.box 26 (.t 1)) [1],
  o1 4 (.alloc 26 [(.int .u64 0), (.int .u64 0), (.int .u64 0), (.int .u64 0)]) []]
@[reducible] def fAddL_r1 : List (DOper × List Nat) := [
  o1 5 (.mv (.k (.int .u64 0))) []]
@[reducible] def fAddL_r2 : List (DOper × List Nat) := [
  o1 6 (.mv (.k (.int .i64 0))) []]
@[reducible] def fAddL_r3 : List (DOper × List Nat) := [
  o1 10 (.mv (.t 6)) [],
  o1 11 (.bin false .lss (.t 10) (.k (.int .i64 4))) [10]]
@[reducible] def fAddL_k0 : KCode := (.keep [2, 4] (.exit 0))
@[reducible] def fAddL_r4 : List (DOper × List Nat) := [
  o1 14 (.mv (.t 6)) [],
  o2 15 1 (.idxA 4 1 (.t 2) (.t 14)) [14],
  o2 16 2 (.load none (.t 15)) [15],
  o2 17 3 (.mv (.t 6)) [],
  o2 18 4 (.idxA 4 1 (.t 3) (.t 17)) [17],
  o2 19 5 (.load none (.t 18)) [18],
  o2 20 6 (.bin false .add (.t 16) (.t 19)) [16, 19],
  o2 7 7 (.mv (.t 20)) [20]]
@[reducible] def fAddL_r5 : List (DOper × List Nat) := [
  o1 8 (.mv (.k (.int .u64 0))) []]
@[reducible] def fAddL_r6 : List (DOper × List Nat) := [
  o1 21 (.mv (.t 7)) [],
  o1 22 (.mv (.t 6)) [],
  o1 23 (.idxA 4 1 (.t 2) (.t 22)) [22],
  o1 24 (.load none (.t 23)) [23],
  o1 25 (.bin false .lss (.t 21) (.t 24)) [21, 24]]
@[reducible] def fAddL_r7 : List (DOper × List Nat) := [
  o1 8 (.mv (.k (.int .u64 1))) []]
@[reducible] def fAddL_k1 : KCode := (.kill [8, 25] (.reg fAddL_r7))
@[reducible] def fAddL_r8 : List (DOper × List Nat) := [
  o1 26 (.mv (.t 7)) [],
  o1 27 (.mv (.t 5)) [5],
  o1 28 (.bin false .add (.t 26) (.t 27)) [26, 27],
  o1 9 (.mv (.t 28)) [28]]
@[reducible] def fAddL_r9 : List (DOper × List Nat) := [
  o1 29 (.mv (.t 9)) [],
  o1 30 (.mv (.t 7)) [7],
  o1 31 (.bin false .lss (.t 29) (.t 30)) [29, 30]]
@[reducible] def fAddL_r10 : List (DOper × List Nat) := [
  o1 8 (.mv (.k (.int .u64 1))) []]
@[reducible] def fAddL_k2 : KCode := (.kill [8, 31] (.reg fAddL_r10))
@[reducible] def fAddL_r11 : List (DOper × List Nat) := [
  o1 32 (.mv (.t 6)) [],
  o1 33 (.mv (.t 9)) [9],
  o1 34 (.idxA 4 1 (.t 2) (.t 32)) [32],
  (⟨⟨none, none, .store 1 (.t 34) (.t 33)⟩, 0, []⟩, [33, 34])]
@[reducible] def fAddL_r12 : List (DOper × List Nat) := [
  o1 35 (.mv (.t 8)) [8],
  o1 5 (.mv (.t 35)) [35]]
@[reducible] def fAddL_r13 : List (DOper × List Nat) := [
  o1 12 (.mv (.t 6)) [6],
  o1 13 (.bin false .add (.t 12) (.k (.int .i64 1))) [12],
  o1 6 (.mv (.t 13)) [13]]
/-- live: [2, 3, 4, 5, 6] -/
@[reducible] def fAddL_l3 : KCode := (.seq (.seq (.reg fAddL_r3) (.cond (.t 11) (.kill [11] .skip) fAddL_k0)) (.kill [10, 11] (.seq (.block 1 (.seq (.draw fAddL_r4) (.seq (.reg fAddL_r5) (.seq (.seq (.reg fAddL_r6) (.cond (.t 25) fAddL_k1 (.kill [25] .skip))) (.kill [21, 22, 23, 24, 25] (.seq (.reg fAddL_r8) (.seq (.seq (.reg fAddL_r9) (.cond (.t 31) fAddL_k2 (.kill [31] .skip))) (.kill [7, 29, 30, 31] (.seq (.reg fAddL_r11) (.reg fAddL_r12)))))))))) (.keep [2, 3, 4, 5, 6] (.reg fAddL_r13)))))
@[reducible] def fAddL_r14 : List (DOper × List Nat) := [
  o1 36 (.load (some 4) (.t 2)) [],
  (⟨⟨(some 37), none, .call 50 []⟩, 1, [0]⟩, []),
  o2 38 2 (.call 54 [(.t 36), (.t 37)]) [36, 37]]
@[reducible] def fAddL_r15 : List (DOper × List Nat) := [
  o1 39 (.load (some 4) (.t 2)) [2],
  (⟨⟨none, none, .store 4 (.t 4) (.t 39)⟩, 0, []⟩, [39])]
@[reducible] def fAddL_k4 : KCode := (.kill [38] (.seq (.reg fAddL_r15) .ret))
@[reducible] def fAddL_r16 : List (DOper × List Nat) := [
  o1 40 (.load (some 4) (.t 2)) [2],
  (⟨⟨(some 41), none, .call 50 []⟩, 1, [0]⟩, []),
  o2 42 2 (.call 58 [(.t 40), (.t 41)]) [40, 41],
  (⟨⟨none, none, .store 4 (.t 4) (.t 42)⟩, 3, []⟩, [42])]
/-- bosun/bosunref05.AddL -/
@[reducible] def fAddL : KCode := (.seq (.reg fAddL_r0) (.seq (.reg fAddL_r1) (.seq (.seq (.reg fAddL_r2) (.block 0 (.loop fAddL_l3))) (.keep [2, 4] (.seq (.seq (.draw fAddL_r14) (.cond (.t 38) fAddL_k4 (.kill [38] .skip))) (.keep [2, 4] (.seq (.draw fAddL_r16) .ret)))))))
@[reducible] def fAddL_rs : List IRes := [.cell 4 (some 4)]
theorem fAddL_low : lowFunc Try.prog 19 [] [] = some ⟨fAddL.bare, fAddL_rs, 43⟩ := by kernel_rfl

@[reducible] def fMulL_r0 : List (DOper × List Nat) := [
  o1 2 (.box 26 (.t 0)) [0],
  o1 3 (.box 26 (.t 1)) [1],
  o1 4 (.alloc 26 [(.int .u64 0), (.int .u64 0), (.int .u64 0), (.int .u64 0)]) []]
@[reducible] def fMulL_r1 : List (DOper × List Nat) := [
  o1 5 (.alloc 26 [(.int .u64 0), (.int .u64 0), (.int .u64 0), (.int .u64 0)]) []]
@[reducible] def fMulL_r2 : List (DOper × List Nat) := [
  o1 6 (.mv (.k (.int .i64 255))) []]
@[reducible] def fMulL_r3 : List (DOper × List Nat) := [
  o1 7 (.mv (.t 6)) [],
  o1 8 (.bin false .geq (.t 7) (.k (.int .i64 0))) [7]]
@[reducible] def fMulL_k0 : KCode := (.keep [4, 5] (.exit 0))
@[reducible] def fMulL_r4 : List (DOper × List Nat) := [
  o1 11 (.load (some 4) (.t 5)) [],
  o1 12 (.call 53 [(.t 11), (.k (.int .i64 0))]) [11],
  (⟨⟨none, none, .store 4 (.t 5) (.t 12)⟩, 0, []⟩, [12])]
@[reducible] def fMulL_r5 : List (DOper × List Nat) := [
  o1 13 (.mv (.t 6)) [],
  o1 14 (.bin false .quo (.t 13) (.k (.int .i64 64))) [13],
  o1 15 (.idxA 4 1 (.t 3) (.t 14)) [14],
  o1 16 (.load none (.t 15)) [15],
  o1 17 (.mv (.t 6)) [],
  o1 18 (.bin false .rem (.t 17) (.k (.int .i64 64))) [17],
  o1 19 (.bin false .shr (.t 16) (.t 18)) [16, 18],
  o1 20 (.bin false .rem (.t 19) (.k (.int .u64 2))) [19],
  o1 21 (.bin false .eql (.t 20) (.k (.int .u64 1))) [20]]
@[reducible] def fMulL_r6 : List (DOper × List Nat) := [
  o1 22 (.load (some 4) (.t 5)) [],
  o1 23 (.load (some 4) (.t 2)) [],
  o1 24 (.call 19 [(.t 22), (.t 23)]) [22, 23],
  (⟨⟨none, none, .store 4 (.t 5) (.t 24)⟩, 0, []⟩, [24])]
@[reducible] def fMulL_k1 : KCode := (.kill [21] (.reg fMulL_r6))
@[reducible] def fMulL_r7 : List (DOper × List Nat) := [
  o1 9 (.mv (.t 6)) [6],
  o1 10 (.bin false .sub (.t 9) (.k (.int .i64 1))) [9],
  o1 6 (.mv (.t 10)) [10]]
/-- live: [2, 3, 4, 5, 6] -/
@[reducible] def fMulL_l2 : KCode := (.seq (.seq (.reg fMulL_r3) (.cond (.t 8) (.kill [8] .skip) fMulL_k0)) (.kill [7, 8] (.seq (.block 1 (.seq (.reg fMulL_r4) (.seq (.reg fMulL_r5) (.cond (.t 21) fMulL_k1 (.kill [21] .skip))))) (.keep [2, 3, 4, 5, 6] (.reg fMulL_r7)))))
@[reducible] def fMulL_r8 : List (DOper × List Nat) := [
  o1 25 (.load (some 4) (.t 5)) [5],
  (⟨⟨none, none, .store 4 (.t 4) (.t 25)⟩, 0, []⟩, [25])]
/-- bosun/bosunref05.MulL -/
@[reducible] def fMulL : KCode := (.seq (.reg fMulL_r0) (.seq (.reg fMulL_r1) (.seq (.seq (.reg fMulL_r2) (.block 0 (.loop fMulL_l2))) (.keep [4, 5] (.seq (.reg fMulL_r8) .ret)))))
@[reducible] def fMulL_rs : List IRes := [.cell 4 (some 4)]
theorem fMulL_low : lowFunc Try.prog 21 [] [] = some ⟨fMulL.bare, fMulL_rs, 26⟩ := by kernel_rfl

@[reducible] def fBytesL_r0 : List (DOper × List Nat) := [
  o1 1 (.box 26 (.t 0)) [0],
  o1 2 (.alloc 22 [(.int .u8 0), (.int .u8 0), (.int .u8 0), (.int .u8 0), (.int .u8 0), (.int .u8 0), (.int .u8 0), (.int .u8 0), (.int .u8 0), (.int .u8 0), (.int .u8 0), (.int .u8 0), (.int .u8 0), (.int .u8 0), (.int .u8 0), (.int .u8 0), (.int .u8 0), (.int .u8 0), (.int .u8 0), (.int .u8 0), (.int .u8 0), (.int .u8 0), (.int .u8 0), (.int .u8 0), (.int .u8 0), (.int .u8 0), (.int .u8 0), (.int .u8 0), (.int .u8 0), (.int .u8 0), (.int .u8 0), (.int .u8 0)]) []]
@[reducible] def fBytesL_r1 : List (DOper × List Nat) := [
  o1 3 (.alloc 22 [(.int .u8 0), (.int .u8 0), (.int .u8 0), (.int .u8 0), (.int .u8 0), (.int .u8 0), (.int .u8 0), (.int .u8 0), (.int .u8 0), (.int .u8 0), (.int .u8 0), (.int .u8 0), (.int .u8 0), (.int .u8 0), (.int .u8 0), (.int .u8 0), (.int .u8 0), (.int .u8 0), (.int .u8 0), (.int .u8 0), (.int .u8 0), (.int .u8 0), (.int .u8 0), (.int .u8 0), (.int .u8 0), (.int .u8 0), (.int .u8 0), (.int .u8 0), (.int .u8 0), (.int .u8 0), (.int .u8 0), (.int .u8 0)]) []]
@[reducible] def fBytesL_r2 : List (DOper × List Nat) := [
  o1 4 (.mv (.k (.int .i64 0))) []]
@[reducible] def fBytesL_r3 : List (DOper × List Nat) := [
  o1 5 (.mv (.t 4)) [],
  o1 6 (.bin false .lss (.t 5) (.k (.int .i64 32))) [5]]
@[reducible] def fBytesL_k0 : KCode := (.keep [2, 3] (.exit 0))
@[reducible] def fBytesL_r4 : List (DOper × List Nat) := [
  o1 9 (.mv (.t 4)) [],
  o1 10 (.mv (.t 4)) [],
  o1 11 (.bin false .quo (.t 10) (.k (.int .i64 8))) [10],
  o1 12 (.idxA 4 1 (.t 1) (.t 11)) [11],
  o1 13 (.load none (.t 12)) [12],
  o1 14 (.mv (.t 4)) [],
  o1 15 (.bin false .rem (.t 14) (.k (.int .i64 8))) [14],
  o1 16 (.bin false .mul (.k (.int .i64 8)) (.t 15)) [15],
  o1 17 (.bin false .shr (.t 13) (.t 16)) [13, 16],
  o1 18 (.convI .u8 (.t 17)) [17],
  o1 19 (.idxA 32 1 (.t 3) (.t 9)) [9],
  (⟨⟨none, none, .store 1 (.t 19) (.t 18)⟩, 0, []⟩, [18, 19])]
@[reducible] def fBytesL_r5 : List (DOper × List Nat) := [
  o1 7 (.mv (.t 4)) [4],
  o1 8 (.bin false .add (.t 7) (.k (.int .i64 1))) [7],
  o1 4 (.mv (.t 8)) [8]]
/-- live: [1, 2, 3, 4] -/
@[reducible] def fBytesL_l1 : KCode := (.seq (.seq (.reg fBytesL_r3) (.cond (.t 6) (.kill [6] .skip) fBytesL_k0)) (.kill [5, 6] (.seq (.block 1 (.reg fBytesL_r4)) (.keep [1, 2, 3, 4] (.reg fBytesL_r5)))))
@[reducible] def fBytesL_r6 : List (DOper × List Nat) := [
  o1 20 (.load (some 32) (.t 3)) [3],
  (⟨⟨none, none, .store 32 (.t 2) (.t 20)⟩, 0, []⟩, [20])]
/-- bosun/bosunref05.BytesL -/
@[reducible] def fBytesL : KCode := (.seq (.reg fBytesL_r0) (.seq (.reg fBytesL_r1) (.seq (.seq (.reg fBytesL_r2) (.block 0 (.loop fBytesL_l1))) (.keep [2, 3] (.seq (.reg fBytesL_r6) .ret)))))
@[reducible] def fBytesL_rs : List IRes := [.cell 2 (some 32)]
theorem fBytesL_low : lowFunc Try.prog 55 [] [] = some ⟨fBytesL.bare, fBytesL_rs, 21⟩ := by kernel_rfl

@[reducible] def fNum6_r0 : List (DOper × List Nat) := [
  o1 1 (.box 26 (.t 0)) [0],
  o1 2 (.alloc 26 [(.int .u64 0), (.int .u64 0), (.int .u64 0), (.int .u64 0)]) []]
@[reducible] def fNum6_r1 : List (DOper × List Nat) := [
  o1 4 (.load (some 4) (.t 1)) [1],
  o1 5 (.call 55 [(.t 4)]) [4],
  o1 3 (.alloc 22 [(.int .u8 0), (.int .u8 0), (.int .u8 0), (.int .u8 0), (.int .u8 0), (.int .u8 0), (.int .u8 0), (.int .u8 0), (.int .u8 0), (.int .u8 0), (.int .u8 0), (.int .u8 0), (.int .u8 0), (.int .u8 0), (.int .u8 0), (.int .u8 0), (.int .u8 0), (.int .u8 0), (.int .u8 0), (.int .u8 0), (.int .u8 0), (.int .u8 0), (.int .u8 0), (.int .u8 0), (.int .u8 0), (.int .u8 0), (.int .u8 0), (.int .u8 0), (.int .u8 0), (.int .u8 0), (.int .u8 0), (.int .u8 0)]) [],
  (⟨⟨none, none, .store 32 (.t 3) (.t 5)⟩, 0, []⟩, [5])]
@[reducible] def fNum6_r2 : List (DOper × List Nat) := [
  o1 6 (.slA 1 32 (.t 3) none none none) [3],
  o1 7 (.call 14 [(.t 6)]) [6],
  (⟨⟨none, none, .store 4 (.t 2) (.t 7)⟩, 0, []⟩, [7])]
/-- bosun/bosunlaw06.num -/
@[reducible] def fNum6 : KCode := (.seq (.reg fNum6_r0) (.seq (.reg fNum6_r1) (.seq (.reg fNum6_r2) .ret)))
@[reducible] def fNum6_rs : List IRes := [.cell 2 (some 4)]
theorem fNum6_low : lowFunc Try.prog 17 [] [] = some ⟨fNum6.bare, fNum6_rs, 8⟩ := by kernel_rfl

@[reducible] def fLives6_r0 : List (DOper × List Nat) := [
  o1 0 (.mv (.k (.bool false))) [0]]
@[reducible] def fLives6_r1 : List (DOper × List Nat) := [
  o1 2 (.call 49 []) [],
  o1 3 (.call 16 [(.t 2)]) [2],
  o1 1 (.alloc 22 [(.int .u8 0), (.int .u8 0), (.int .u8 0), (.int .u8 0), (.int .u8 0), (.int .u8 0), (.int .u8 0), (.int .u8 0), (.int .u8 0), (.int .u8 0), (.int .u8 0), (.int .u8 0), (.int .u8 0), (.int .u8 0), (.int .u8 0), (.int .u8 0), (.int .u8 0), (.int .u8 0), (.int .u8 0), (.int .u8 0), (.int .u8 0), (.int .u8 0), (.int .u8 0), (.int .u8 0), (.int .u8 0), (.int .u8 0), (.int .u8 0), (.int .u8 0), (.int .u8 0), (.int .u8 0), (.int .u8 0), (.int .u8 0)]) [],
  (⟨⟨none, none, .store 32 (.t 1) (.t 3)⟩, 0, []⟩, [3])]
@[reducible] def fLives6_r2 : List (DOper × List Nat) := [
  o1 4 (.slA 1 32 (.t 1) none none none) [1],
  o1 5 (.call 13 [(.t 4)]) [4],
  o1 6 (.build [(.int .u64 0), (.int .u64 0), (.int .u64 0), (.int .u64 0)] []) [],
  o1 7 (.eqA false [.u64, .u64, .u64, .u64] (.t 5) (.t 6)) [5, 6],
  o1 8 (.mv (.t 7)) [7],
  (⟨⟨(some 9), (some (8, true)), .buildF 5 1 [(.int .u8 0)] [(0, 1, (.k (.int .u8 5)))]⟩, 0, []⟩, []),
  (⟨⟨(some 10), (some (8, true)), .call 13 [(.t 9)]⟩, 0, []⟩, [9]),
  (⟨⟨(some 11), (some (8, true)), .build [(.int .u64 0), (.int .u64 0), (.int .u64 0), (.int .u64 0)] [(0, 1, (.k (.int .u64 5)))]⟩, 0, []⟩, []),
  (⟨⟨(some 12), (some (8, true)), .eqA false [.u64, .u64, .u64, .u64] (.t 10) (.t 11)⟩, 0, []⟩, [10, 11]),
  o1 13 (.pick (.t 8) (.t 12) (.k (.bool false))) [8, 12],
  o1 14 (.mv (.t 13)) [13],
  (⟨⟨(some 15), (some (14, true)), .call 49 []⟩, 0, []⟩, []),
  (⟨⟨(some 16), (some (14, true)), .call 50 []⟩, 0, []⟩, []),
  (⟨⟨(some 17), (some (14, true)), .eqA false [.u64, .u64, .u64, .u64] (.t 15) (.t 16)⟩, 0, []⟩, [15, 16]),
  o1 18 (.pick (.t 14) (.t 17) (.k (.bool false))) [14, 17],
  o1 0 (.mv (.t 18)) [18]]
/-- bosun/bosunlaw06.lives -/
@[reducible] def fLives6 : KCode := (.seq (.reg fLives6_r0) (.seq (.reg fLives6_r1) (.seq (.reg fLives6_r2) .ret)))
@[reducible] def fLives6_rs : List IRes := [.tmp 0]
theorem fLives6_low : lowFunc Try.prog 11 [] [] = some ⟨fLives6.bare, fLives6_rs, 19⟩ := by kernel_rfl

@[reducible] def fSBytes_r0 : List (DOper × List Nat) := [
  o1 2 (.box 22 (.t 0)) [0],
  o1 4 (.mv (.k (.bool false))) [4]]
@[reducible] def fSBytes_r1 : List (DOper × List Nat) := [
  o1 9 (.call 11 []) [],
  o1 10 (.un .not (.t 9)) [9],
  o1 11 (.mv (.t 10)) [10],
  (⟨⟨(some 12), (some (11, false)), .mv (.t 1)⟩, 0, []⟩, []),
  (⟨⟨(some 13), (some (11, false)), .len true (.t 12)⟩, 0, []⟩, [12]),
  (⟨⟨(some 14), (some (11, false)), .bin false .gtr (.t 13) (.k (.int .i64 200))⟩, 0, []⟩, [13]),
  o1 15 (.pick (.t 11) (.k (.bool true)) (.t 14)) [11, 14]]
@[reducible] def fSBytes_r2 : List (DOper × List Nat) := [
  o1 16 (.call 11 []) [],
  o1 4 (.mv (.t 16)) [16]]
@[reducible] def fSBytes_k0 : KCode := (.keep [] (.seq (.reg fSBytes_r2) .ret))
@[reducible] def fSBytes_r3 : List (DOper × List Nat) := [
  o1 5 (.alloc 26 [(.int .u64 0), (.int .u64 0), (.int .u64 0), (.int .u64 0)]) []]
@[reducible] def fSBytes_r4 : List (DOper × List Nat) := [
  o1 6 (.mv (.k (.int .i64 31))) []]
@[reducible] def fSBytes_r5 : List (DOper × List Nat) := [
  o1 17 (.mv (.t 6)) [],
  o1 18 (.bin false .geq (.t 17) (.k (.int .i64 0))) [17]]
@[reducible] def fSBytes_k1 : KCode := (.kill [6, 18] (.exit 0))
@[reducible] def fSBytes_r6 : List (DOper × List Nat) := [
  o1 21 (.mv (.t 6)) [],
  o2 22 1 (.bin false .quo (.t 21) (.k (.int .i64 8))) [21],
  o2 23 2 (.mv (.t 6)) [],
  o2 24 3 (.bin false .quo (.t 23) (.k (.int .i64 8))) [23],
  o2 25 4 (.idxA 4 1 (.t 5) (.t 24)) [24],
  o2 26 5 (.load none (.t 25)) [25],
  o2 27 6 (.bin false .shl (.t 26) (.k (.int .u64 8))) [26],
  o2 28 7 (.mv (.t 6)) [],
  o2 29 8 (.idxA 32 1 (.t 2) (.t 28)) [28],
  o2 30 9 (.load none (.t 29)) [29],
  o2 31 10 (.convI .u64 (.t 30)) [30],
  o2 32 11 (.bin false .or (.t 27) (.t 31)) [27, 31],
  o2 33 12 (.idxA 4 1 (.t 5) (.t 22)) [22],
  (⟨⟨none, none, .store 1 (.t 33) (.t 32)⟩, 13, []⟩, [32, 33])]
@[reducible] def fSBytes_r7 : List (DOper × List Nat) := [
  o1 19 (.mv (.t 6)) [6],
  o1 20 (.bin false .sub (.t 19) (.k (.int .i64 1))) [19],
  o1 6 (.mv (.t 20)) [20]]
/-- live: [1, 2, 5, 6] -/
@[reducible] def fSBytes_l2 : KCode := (.seq (.seq (.reg fSBytes_r5) (.cond (.t 18) (.kill [18] .skip) fSBytes_k1)) (.kill [17, 18] (.seq (.block 1 (.draw fSBytes_r6)) (.keep [1, 2, 5, 6] (.reg fSBytes_r7)))))
@[reducible] def fSBytes_r8 : List (DOper × List Nat) := [
  o1 35 (.load (some 32) (.t 2)) [],
  o1 36 (.call 12 [(.t 35)]) [35],
  o1 34 (.mv (.t 36)) [36],
  o1 37 (.extract 0 (.t 34)) [],
  o1 38 (.extract 1 (.t 34)) [34],
  o1 7 (.alloc 28 [(.int .u64 0), (.int .u64 0), (.int .u64 0), (.int .u64 0)]) [],
  (⟨⟨none, none, .store 4 (.t 7) (.t 37)⟩, 0, []⟩, [37]),
  o1 8 (.mv (.t 38)) [38]]
@[reducible] def fSBytes_r9 : List (DOper × List Nat) := [
  o1 39 (.mv (.t 1)) [],
  o1 40 (.call 13 [(.t 39)]) [39],
  o1 41 (.mv (.t 1)) [1],
  o1 42 (.call 14 [(.t 41)]) [41],
  o1 43 (.eqA true [.u64, .u64, .u64, .u64] (.t 40) (.t 42)) [40, 42]]
@[reducible] def fSBytes_r10 : List (DOper × List Nat) := [
  o1 4 (.mv (.k (.bool false))) []]
@[reducible] def fSBytes_k3 : KCode := (.keep [] (.seq (.reg fSBytes_r10) .ret))
@[reducible] def fSBytes_r11 : List (DOper × List Nat) := [
  o1 44 (.load (some 4) (.t 5)) [],
  o1 45 (.call 15 [(.t 44)]) [44],
  o1 46 (.un .not (.t 45)) [45]]
@[reducible] def fSBytes_r12 : List (DOper × List Nat) := [
  o1 47 (.mv (.t 8)) [8],
  o1 48 (.bin false .eql (.t 47) (.k (.int .i64 7))) [47],
  o1 49 (.mv (.t 48)) [48],
  (⟨⟨(some 50), (some (49, true)), .load (some 4) (.t 7)⟩, 0, []⟩, [7]),
  (⟨⟨(some 51), (some (49, true)), .build [(.int .u64 0), (.int .u64 0), (.int .u64 0), (.int .u64 0)] []⟩, 0, []⟩, []),
  (⟨⟨(some 52), (some (49, true)), .eqA false [.u64, .u64, .u64, .u64] (.t 50) (.t 51)⟩, 0, []⟩, [50, 51]),
  o1 53 (.pick (.t 49) (.t 52) (.k (.bool false))) [49, 52],
  o1 4 (.mv (.t 53)) [53]]
@[reducible] def fSBytes_k4 : KCode := (.keep [7, 8] (.seq (.reg fSBytes_r12) .ret))
@[reducible] def fSBytes_r13 : List (DOper × List Nat) := [
  o1 54 (.mv (.t 8)) [8],
  o2 55 1 (.bin false .eql (.t 54) (.k (.int .i64 0))) [54],
  o2 56 2 (.mv (.t 55)) [55],
  (⟨⟨(some 57), (some (56, true)), .load (some 4) (.t 7)⟩, 3, []⟩, []),
  (⟨⟨(some 58), (some (56, true)), .load (some 4) (.t 5)⟩, 4, []⟩, [5]),
  (⟨⟨(some 59), (some (56, true)), .eqA false [.u64, .u64, .u64, .u64] (.t 57) (.t 58)⟩, 5, []⟩, [57, 58]),
  o2 60 6 (.pick (.t 56) (.t 59) (.k (.bool false))) [56, 59],
  o2 61 7 (.mv (.t 60)) [60],
  (⟨⟨(some 62), (some (61, true)), .load (some 4) (.t 7)⟩, 8, []⟩, [7]),
  (⟨⟨(some 64), (some (61, true)), .load (some 32) (.t 2)⟩, 10, []⟩, [2]),
  (⟨⟨(some 63), (some (61, true)), .call 16 [(.t 62)]⟩, 9, [10]⟩, [62]),
  (⟨⟨(some 65), (some (61, true)), .eqA false [.u8, .u8, .u8, .u8, .u8, .u8, .u8, .u8, .u8, .u8, .u8, .u8, .u8, .u8, .u8, .u8, .u8, .u8, .u8, .u8, .u8, .u8, .u8, .u8, .u8, .u8, .u8, .u8, .u8, .u8, .u8, .u8] (.t 63) (.t 64)⟩, 11, []⟩, [63, 64]),
  o2 66 12 (.pick (.t 61) (.t 65) (.k (.bool false))) [61, 65],
  o2 4 13 (.mv (.t 66)) [66]]
/-- bosun/bosunlaw06.ScalarBytes -/
@[reducible] def fSBytes : KCode := (.seq (.reg fSBytes_r0) (.seq (.seq (.reg fSBytes_r1) (.cond (.t 15) fSBytes_k0 (.kill [15] .skip))) (.keep [1, 2] (.seq (.reg fSBytes_r3) (.seq (.seq (.reg fSBytes_r4) (.block 0 (.loop fSBytes_l2))) (.keep [1, 2, 5] (.seq (.reg fSBytes_r8) (.seq (.seq (.reg fSBytes_r9) (.cond (.t 43) fSBytes_k3 (.kill [43] .skip))) (.keep [2, 5, 7, 8] (.seq (.seq (.reg fSBytes_r11) (.cond (.t 46) fSBytes_k4 (.kill [46] .skip))) (.keep [2, 5, 7, 8] (.seq (.draw fSBytes_r13) .ret))))))))))))
@[reducible] def fSBytes_rs : List IRes := [.tmp 4]
theorem fSBytes_low : lowFunc Try.prog 3 [] [(13, [0, 1, 2, 3, 4, 5, 6, 7, 8, 10, 9, 11, 12, 13])] = some ⟨fSBytes.bare, fSBytes_rs, 67⟩ := by kernel_rfl

@[reducible] def fSSums_r0 : List (DOper × List Nat) := [
  o1 3 (.box 26 (.t 0)) [0],
  o1 4 (.box 26 (.t 1)) [1],
  o1 6 (.mv (.k (.bool false))) [6]]
@[reducible] def fSSums_r1 : List (DOper × List Nat) := [
  o1 10 (.call 11 []) [],
  o1 11 (.un .not (.t 10)) [10]]
@[reducible] def fSSums_r2 : List (DOper × List Nat) := [
  o1 6 (.mv (.k (.bool false))) []]
@[reducible] def fSSums_k0 : KCode := (.keep [] (.seq (.reg fSSums_r2) .ret))
@[reducible] def fSSums_r3 : List (DOper × List Nat) := [
  o1 12 (.load (some 4) (.t 3)) [],
  o2 13 1 (.callP 17 [(.t 12)]) [12],
  o2 14 2 (.load (some 4) (.t 4)) [4],
  o2 15 3 (.callP 17 [(.t 14)]) [14],
  (⟨⟨(some 7), none, .allocA 2 0 26 [(.int .u64 0), (.int .u64 0), (.int .u64 0), (.int .u64 0)]⟩, 4, [2, 0]⟩, []),
  (⟨⟨(some 8), none, .allocA 2 1 26 [(.int .u64 0), (.int .u64 0), (.int .u64 0), (.int .u64 0)]⟩, 5, [2, 0]⟩, []),
  (⟨⟨none, none, .store 4 (.t 7) (.t 13)⟩, 6, []⟩, [13]),
  (⟨⟨none, none, .store 4 (.t 8) (.t 15)⟩, 7, []⟩, [15])]
@[reducible] def fSSums_r4 : List (DOper × List Nat) := [
  o1 16 (.mv (.t 2)) [],
  o1 17 (.bin false .geq (.t 16) (.k (.int .i64 0))) [16],
  o1 18 (.mv (.t 17)) [17],
  (⟨⟨(some 19), (some (18, true)), .mv (.t 2)⟩, 0, []⟩, []),
  (⟨⟨(some 20), (some (18, true)), .bin false .lss (.t 19) (.k (.int .i64 256))⟩, 0, []⟩, [19]),
  o1 21 (.pick (.t 18) (.t 20) (.k (.bool false))) [18, 20],
  o1 22 (.mv (.t 21)) [21],
  (⟨⟨(some 23), (some (22, true)), .mv (.t 2)⟩, 0, []⟩, []),
  (⟨⟨(some 24), (some (22, true)), .min (.t 23) (.k (.int .i64 255))⟩, 0, []⟩, [23]),
  (⟨⟨(some 25), (some (22, true)), .max (.t 24) (.k (.int .i64 0))⟩, 0, []⟩, [24]),
  (⟨⟨(some 26), (some (22, true)), .bin false .quo (.t 25) (.k (.int .i64 64))⟩, 0, []⟩, [25]),
  (⟨⟨(some 27), (some (22, true)), .idxA 4 1 (.t 3) (.t 26)⟩, 0, []⟩, [26]),
  (⟨⟨(some 28), (some (22, true)), .load none (.t 27)⟩, 0, []⟩, [27]),
  (⟨⟨(some 29), (some (22, true)), .mv (.t 2)⟩, 0, []⟩, []),
  (⟨⟨(some 30), (some (22, true)), .min (.t 29) (.k (.int .i64 255))⟩, 0, []⟩, [29]),
  (⟨⟨(some 31), (some (22, true)), .max (.t 30) (.k (.int .i64 0))⟩, 0, []⟩, [30]),
  (⟨⟨(some 32), (some (22, true)), .bin false .rem (.t 31) (.k (.int .i64 64))⟩, 0, []⟩, [31]),
  (⟨⟨(some 33), (some (22, true)), .bin false .shr (.t 28) (.t 32)⟩, 0, []⟩, [28, 32]),
  (⟨⟨(some 34), (some (22, true)), .bin false .and (.t 33) (.k (.int .u64 1))⟩, 0, []⟩, [33]),
  (⟨⟨(some 35), (some (22, true)), .bin false .eql (.t 34) (.k (.int .u64 1))⟩, 0, []⟩, [34]),
  o1 36 (.pick (.t 22) (.t 35) (.k (.bool false))) [22, 35],
  o1 9 (.mv (.t 36)) [36]]
@[reducible] def fSSums_r5 : List (DOper × List Nat) := [
  o1 37 (.load (some 4) (.t 7)) [],
  o2 38 1 (.load (some 4) (.t 8)) [],
  o2 40 3 (.load (some 4) (.t 7)) [],
  o2 41 4 (.load (some 4) (.t 8)) [],
  (⟨⟨(some 39), none, .call 18 [(.t 37), (.t 38)]⟩, 2, [4, 3]⟩, [37, 38]),
  o2 42 5 (.call 19 [(.t 40), (.t 41)]) [40, 41],
  o2 43 6 (.eqA false [.u64, .u64, .u64, .u64] (.t 39) (.t 42)) [39, 42],
  o2 44 7 (.mv (.t 43)) [43],
  (⟨⟨(some 45), (some (44, true)), .load (some 4) (.t 7)⟩, 8, []⟩, []),
  (⟨⟨(some 46), (some (44, true)), .load (some 4) (.t 8)⟩, 9, []⟩, []),
  (⟨⟨(some 48), (some (44, true)), .load (some 4) (.t 7)⟩, 11, []⟩, [7]),
  (⟨⟨(some 49), (some (44, true)), .load (some 4) (.t 8)⟩, 12, []⟩, [8]),
  (⟨⟨(some 47), (some (44, true)), .call 20 [(.t 45), (.t 46)]⟩, 10, [12, 11]⟩, [45, 46]),
  (⟨⟨(some 50), (some (44, true)), .call 21 [(.t 48), (.t 49)]⟩, 13, []⟩, [48, 49]),
  (⟨⟨(some 51), (some (44, true)), .eqA false [.u64, .u64, .u64, .u64] (.t 47) (.t 50)⟩, 14, []⟩, [47, 50]),
  o2 52 15 (.pick (.t 44) (.t 51) (.k (.bool false))) [44, 51],
  o2 53 16 (.mv (.t 52)) [52],
  (⟨⟨(some 54), (some (53, true)), .load (some 4) (.t 3)⟩, 17, []⟩, [3]),
  (⟨⟨(some 55), (some (53, true)), .mv (.t 2)⟩, 18, []⟩, [2]),
  (⟨⟨(some 57), (some (53, true)), .mv (.t 9)⟩, 20, []⟩, [9]),
  (⟨⟨(some 56), (some (53, true)), .call 22 [(.t 54), (.t 55)]⟩, 19, []⟩, [54, 55]),
  (⟨⟨(some 58), (some (53, true)), .bin true .eql (.t 56) (.t 57)⟩, 21, []⟩, [56, 57]),
  o2 59 22 (.pick (.t 53) (.t 58) (.k (.bool false))) [53, 58],
  o2 6 23 (.mv (.t 59)) [59]]
/-- bosun/bosunlaw06.ScalarSums -/
@[reducible] def fSSums : KCode := (.seq (.reg fSSums_r0) (.seq (.seq (.reg fSSums_r1) (.cond (.t 11) fSSums_k0 (.kill [11] .skip))) (.kill [6, 10, 11] (.seq (.drawP 2 2 fSSums_r3) (.seq (.reg fSSums_r4) (.seq (.draw fSSums_r5) .ret))))))
@[reducible] def fSSums_rs : List IRes := [.tmp 6]
theorem fSSums_low : lowFunc Try.prog 4 [(3, 1), (3, 3)] [(1000003, [2, 4, 5]), (5, [0, 1, 3, 4, 2, 5, 6, 7, 8, 9, 11, 12, 10, 13, 14, 15, 16, 17, 18, 20, 19, 21, 22, 23])] = some ⟨fSSums.bare, fSSums_rs, 60⟩ := by kernel_rfl

@[reducible] def fSRules_r0 : List (DOper × List Nat) := [
  o1 3 (.box 26 (.t 0)) [0],
  o1 4 (.box 26 (.t 1)) [1],
  o1 5 (.box 26 (.t 2)) [2],
  o1 6 (.mv (.k (.bool false))) [6]]
@[reducible] def fSRules_r1 : List (DOper × List Nat) := [
  o1 13 (.call 11 []) [],
  o1 14 (.un .not (.t 13)) [13]]
@[reducible] def fSRules_r2 : List (DOper × List Nat) := [
  o1 6 (.mv (.k (.bool false))) []]
@[reducible] def fSRules_k0 : KCode := (.keep [] (.seq (.reg fSRules_r2) .ret))
@[reducible] def fSRules_r3 : List (DOper × List Nat) := [
  o1 15 (.load (some 4) (.t 3)) [3],
  o2 16 1 (.callP 17 [(.t 15)]) [15],
  o2 17 2 (.load (some 4) (.t 4)) [4],
  o2 18 3 (.callP 17 [(.t 17)]) [17],
  o2 19 4 (.load (some 4) (.t 5)) [5],
  o2 20 5 (.callP 17 [(.t 19)]) [19],
  (⟨⟨(some 7), none, .allocA 3 0 28 [(.int .u64 0), (.int .u64 0), (.int .u64 0), (.int .u64 0)]⟩, 6, [4, 2, 0]⟩, []),
  (⟨⟨(some 8), none, .allocA 3 1 28 [(.int .u64 0), (.int .u64 0), (.int .u64 0), (.int .u64 0)]⟩, 7, [4, 2, 0]⟩, []),
  (⟨⟨(some 9), none, .allocA 3 2 28 [(.int .u64 0), (.int .u64 0), (.int .u64 0), (.int .u64 0)]⟩, 8, [4, 2, 0]⟩, []),
  (⟨⟨none, none, .store 4 (.t 7) (.t 16)⟩, 9, []⟩, [16]),
  (⟨⟨none, none, .store 4 (.t 8) (.t 18)⟩, 10, []⟩, [18]),
  (⟨⟨none, none, .store 4 (.t 9) (.t 20)⟩, 11, []⟩, [20])]
@[reducible] def fSRules_r4 : List (DOper × List Nat) := [
  o1 21 (.load (some 4) (.t 7)) [],
  o2 22 1 (.callP 16 [(.t 21)]) [21],
  o2 23 2 (.load (some 4) (.t 8)) [],
  o2 24 3 (.callP 16 [(.t 23)]) [23],
  (⟨⟨(some 10), none, .allocA 6 0 22 [(.int .u8 0), (.int .u8 0), (.int .u8 0), (.int .u8 0), (.int .u8 0), (.int .u8 0), (.int .u8 0), (.int .u8 0), (.int .u8 0), (.int .u8 0), (.int .u8 0), (.int .u8 0), (.int .u8 0), (.int .u8 0), (.int .u8 0), (.int .u8 0), (.int .u8 0), (.int .u8 0), (.int .u8 0), (.int .u8 0), (.int .u8 0), (.int .u8 0), (.int .u8 0), (.int .u8 0), (.int .u8 0), (.int .u8 0), (.int .u8 0), (.int .u8 0), (.int .u8 0), (.int .u8 0), (.int .u8 0), (.int .u8 0)]⟩, 4, [2, 0]⟩, []),
  (⟨⟨(some 11), none, .allocA 6 1 22 [(.int .u8 0), (.int .u8 0), (.int .u8 0), (.int .u8 0), (.int .u8 0), (.int .u8 0), (.int .u8 0), (.int .u8 0), (.int .u8 0), (.int .u8 0), (.int .u8 0), (.int .u8 0), (.int .u8 0), (.int .u8 0), (.int .u8 0), (.int .u8 0), (.int .u8 0), (.int .u8 0), (.int .u8 0), (.int .u8 0), (.int .u8 0), (.int .u8 0), (.int .u8 0), (.int .u8 0), (.int .u8 0), (.int .u8 0), (.int .u8 0), (.int .u8 0), (.int .u8 0), (.int .u8 0), (.int .u8 0), (.int .u8 0)]⟩, 5, [2, 0]⟩, []),
  (⟨⟨none, none, .store 32 (.t 10) (.t 22)⟩, 6, []⟩, [22]),
  (⟨⟨none, none, .store 32 (.t 11) (.t 24)⟩, 7, []⟩, [24])]
@[reducible] def fSRules_r5 : List (DOper × List Nat) := [
  o1 25 (.build [(.int .u64 0), (.int .u64 0), (.int .u64 0), (.int .u64 0)] [(0, 1, (.k (.int .u64 1)))]) [],
  o1 12 (.alloc 28 [(.int .u64 0), (.int .u64 0), (.int .u64 0), (.int .u64 0)]) [],
  (⟨⟨none, none, .store 4 (.t 12) (.t 25)⟩, 0, []⟩, [25])]
@[reducible] def fSRules_r6 : List (DOper × List Nat) := [
  o1 26 (.mv (.k (.int .i64 0))) []]
@[reducible] def fSRules_r7 : List (DOper × List Nat) := [
  o1 27 (.bin false .lss (.t 26) (.k (.int .i64 32))) []]
@[reducible] def fSRules_k1 : KCode := (.kill [26, 27] (.exit 0))
@[reducible] def fSRules_r8 : List (DOper × List Nat) := [
  o1 28 (.load (some 4) (.t 12)) [],
  o1 29 (.build [(.int .u64 0), (.int .u64 0), (.int .u64 0), (.int .u64 0)] [(0, 1, (.k (.int .u64 256)))]) [],
  o1 30 (.call 20 [(.t 28), (.t 29)]) [28, 29],
  (⟨⟨none, none, .store 4 (.t 12) (.t 30)⟩, 0, []⟩, [30])]
@[reducible] def fSRules_r9 : List (DOper × List Nat) := [
  o1 31 (.bin false .add (.t 26) (.k (.int .i64 1))) [26],
  o1 26 (.mv (.t 31)) [31]]
/-- live: [7, 8, 9, 10, 11, 12, 26] -/
@[reducible] def fSRules_l2 : KCode := (.seq (.reg fSRules_r7) (.seq (.cond (.t 27) (.kill [27] .skip) fSRules_k1) (.kill [27] (.seq (.block 1 (.reg fSRules_r8)) (.kill [28, 29, 30] (.reg fSRules_r9))))))
@[reducible] def fSRules_r10 : List (DOper × List Nat) := [
  o1 32 (.slA 1 32 (.t 10) none none none) [10],
  o2 33 1 (.slA 1 32 (.t 11) none none none) [11],
  o2 36 4 (.load (some 4) (.t 7)) [],
  o2 37 5 (.load (some 4) (.t 12)) [12],
  o2 38 6 (.load (some 4) (.t 8)) [],
  (⟨⟨(some 34), none, .appO 5 1 1 (.t 32) (.t 33)⟩, 2, [6, 5, 4]⟩, [32, 33]),
  (⟨⟨(some 35), none, .call 13 [(.t 34)]⟩, 3, [6, 5, 4]⟩, [34]),
  (⟨⟨(some 39), none, .call 20 [(.t 37), (.t 38)]⟩, 7, [4]⟩, [37, 38]),
  o2 40 8 (.call 18 [(.t 36), (.t 39)]) [36, 39],
  o2 41 9 (.eqA true [.u64, .u64, .u64, .u64] (.t 35) (.t 40)) [35, 40]]
@[reducible] def fSRules_r11 : List (DOper × List Nat) := [
  o1 6 (.mv (.k (.bool false))) []]
@[reducible] def fSRules_k3 : KCode := (.keep [] (.seq (.reg fSRules_r11) .ret))
@[reducible] def fSRules_r12 : List (DOper × List Nat) := [
  o1 42 (.load (some 4) (.t 7)) [],
  o2 43 1 (.load (some 4) (.t 8)) [],
  o2 45 3 (.load (some 4) (.t 8)) [],
  o2 46 4 (.load (some 4) (.t 7)) [],
  (⟨⟨(some 44), none, .call 18 [(.t 42), (.t 43)]⟩, 2, [4, 3]⟩, [42, 43]),
  o2 47 5 (.call 18 [(.t 45), (.t 46)]) [45, 46],
  o2 48 6 (.eqA false [.u64, .u64, .u64, .u64] (.t 44) (.t 47)) [44, 47],
  o2 49 7 (.mv (.t 48)) [48],
  (⟨⟨(some 50), (some (49, true)), .load (some 4) (.t 7)⟩, 8, []⟩, []),
  (⟨⟨(some 51), (some (49, true)), .load (some 4) (.t 8)⟩, 9, []⟩, []),
  (⟨⟨(some 53), (some (49, true)), .load (some 4) (.t 8)⟩, 11, []⟩, []),
  (⟨⟨(some 54), (some (49, true)), .load (some 4) (.t 7)⟩, 12, []⟩, []),
  (⟨⟨(some 52), (some (49, true)), .call 20 [(.t 50), (.t 51)]⟩, 10, [12, 11]⟩, [50, 51]),
  (⟨⟨(some 55), (some (49, true)), .call 20 [(.t 53), (.t 54)]⟩, 13, []⟩, [53, 54]),
  (⟨⟨(some 56), (some (49, true)), .eqA false [.u64, .u64, .u64, .u64] (.t 52) (.t 55)⟩, 14, []⟩, [52, 55]),
  o2 57 15 (.pick (.t 49) (.t 56) (.k (.bool false))) [49, 56],
  o2 58 16 (.mv (.t 57)) [57],
  (⟨⟨(some 59), (some (58, true)), .load (some 4) (.t 7)⟩, 17, []⟩, []),
  (⟨⟨(some 60), (some (58, true)), .load (some 4) (.t 8)⟩, 18, []⟩, []),
  (⟨⟨(some 61), (some (58, true)), .load (some 4) (.t 9)⟩, 19, []⟩, []),
  (⟨⟨(some 64), (some (58, true)), .load (some 4) (.t 7)⟩, 22, []⟩, []),
  (⟨⟨(some 65), (some (58, true)), .load (some 4) (.t 8)⟩, 23, []⟩, [8]),
  (⟨⟨(some 67), (some (58, true)), .load (some 4) (.t 7)⟩, 25, []⟩, []),
  (⟨⟨(some 68), (some (58, true)), .load (some 4) (.t 9)⟩, 26, []⟩, [9]),
  (⟨⟨(some 62), (some (58, true)), .call 18 [(.t 60), (.t 61)]⟩, 20, [26, 25, 23, 22, 17]⟩, [60, 61]),
  (⟨⟨(some 63), (some (58, true)), .call 20 [(.t 59), (.t 62)]⟩, 21, [26, 25, 23, 22]⟩, [59, 62]),
  (⟨⟨(some 66), (some (58, true)), .call 20 [(.t 64), (.t 65)]⟩, 24, [26, 25]⟩, [64, 65]),
  (⟨⟨(some 69), (some (58, true)), .call 20 [(.t 67), (.t 68)]⟩, 27, []⟩, [67, 68]),
  (⟨⟨(some 70), (some (58, true)), .call 18 [(.t 66), (.t 69)]⟩, 28, []⟩, [66, 69]),
  (⟨⟨(some 71), (some (58, true)), .eqA false [.u64, .u64, .u64, .u64] (.t 63) (.t 70)⟩, 29, []⟩, [63, 70]),
  o2 72 30 (.pick (.t 58) (.t 71) (.k (.bool false))) [58, 71],
  o2 73 31 (.mv (.t 72)) [72],
  (⟨⟨(some 74), (some (73, true)), .load (some 4) (.t 7)⟩, 32, []⟩, []),
  (⟨⟨(some 75), (some (73, true)), .build [(.int .u64 0), (.int .u64 0), (.int .u64 0), (.int .u64 0)] []⟩, 33, []⟩, []),
  (⟨⟨(some 77), (some (73, true)), .load (some 4) (.t 7)⟩, 35, []⟩, []),
  (⟨⟨(some 76), (some (73, true)), .call 18 [(.t 74), (.t 75)]⟩, 34, [35]⟩, [74, 75]),
  (⟨⟨(some 78), (some (73, true)), .eqA false [.u64, .u64, .u64, .u64] (.t 76) (.t 77)⟩, 36, []⟩, [76, 77]),
  o2 79 37 (.pick (.t 73) (.t 78) (.k (.bool false))) [73, 78],
  o2 80 38 (.mv (.t 79)) [79],
  (⟨⟨(some 81), (some (80, true)), .load (some 4) (.t 7)⟩, 39, []⟩, []),
  (⟨⟨(some 82), (some (80, true)), .build [(.int .u64 0), (.int .u64 0), (.int .u64 0), (.int .u64 0)] [(0, 1, (.k (.int .u64 1)))]⟩, 40, []⟩, []),
  (⟨⟨(some 84), (some (80, true)), .load (some 4) (.t 7)⟩, 42, []⟩, [7]),
  (⟨⟨(some 83), (some (80, true)), .call 20 [(.t 81), (.t 82)]⟩, 41, [42]⟩, [81, 82]),
  (⟨⟨(some 85), (some (80, true)), .eqA false [.u64, .u64, .u64, .u64] (.t 83) (.t 84)⟩, 43, []⟩, [83, 84]),
  o2 86 44 (.pick (.t 80) (.t 85) (.k (.bool false))) [80, 85],
  o2 6 45 (.mv (.t 86)) [86]]
/-- bosun/bosunlaw06.ScalarRules -/
@[reducible] def fSRules : KCode := (.seq (.reg fSRules_r0) (.seq (.seq (.reg fSRules_r1) (.cond (.t 14) fSRules_k0 (.kill [14] .skip))) (.kill [6, 13, 14] (.seq (.drawP 3 3 fSRules_r3) (.seq (.drawP 6 2 fSRules_r4) (.seq (.reg fSRules_r5) (.seq (.seq (.reg fSRules_r6) (.block 0 (.loop fSRules_l2))) (.kill [26, 27, 28, 29, 30, 31] (.seq (.seq (.draw fSRules_r10) (.cond (.t 41) fSRules_k3 (.kill [41] .skip))) (.keep [7, 8, 9] (.seq (.draw fSRules_r12) .ret)))))))))))
@[reducible] def fSRules_rs : List IRes := [.tmp 6]
theorem fSRules_low : lowFunc Try.prog 5 [(3, 1), (3, 3), (3, 5), (4, 1), (4, 3)] [(1000003, [3, 6, 7, 8]), (1000004, [6, 4, 5]), (10, [0, 1, 4, 5, 6, 2, 3, 7, 8, 9]), (12, [0, 1, 3, 4, 2, 5, 6, 7, 8, 9, 11, 12, 10, 13, 14, 15, 16, 17, 18, 19, 22, 23, 25, 26, 20, 21, 24, 27, 28, 29, 30, 31, 32, 33, 35, 34, 36, 37, 38, 39, 40, 42, 41, 43, 44, 45])] = some ⟨fSRules.bare, fSRules_rs, 87⟩ := by kernel_rfl

end Go.Proofs.Ytcmjfjomfdljkaa
