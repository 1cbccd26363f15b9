/-
  Codes of functions.
-/
import Derived.Test.YthgibibeoapfbaaeVE
import Derived.Test.YthgibibeoapfbaaH1
import Derived.Test.YthgibibeoapfbaaRows
set_option linter.unusedSimpArgs false
set_option linter.unnecessarySimpa false
set_option linter.unusedVariables false
set_option linter.unusedSectionVars false
namespace Go.Proofs.Ythgibibeoapfbaa
open Go.Fw
@[reducible] def fRot64_r0 : List (DOper × List Nat) := [
  o1 4 (.mv (.k (.int .u64 0))) [4]]
@[reducible] def fRot64_r1 : List (DOper × List Nat) := [
  o1 6 (.mv (.t 1)) [1],
  o1 7 (.convI .u64 (.t 6)) [6],
  o1 8 (.bin false .and (.t 7) (.k (.int .u64 63))) [7],
  o1 5 (.mv (.t 8)) [8]]
@[reducible] def fRot64_r2 : List (DOper × List Nat) := [
  o1 9 (.mv (.t 0)) [],
  o1 10 (.mv (.t 5)) [],
  o1 11 (.bin false .shl (.t 9) (.t 10)) [9, 10],
  o1 12 (.mv (.t 0)) [0],
  o1 13 (.mv (.t 5)) [5],
  o1 14 (.bin false .sub (.k (.int .u64 64)) (.t 13)) [13],
  o1 15 (.bin false .shr (.t 12) (.t 14)) [12, 14],
  o1 16 (.bin false .or (.t 11) (.t 15)) [11, 15],
  o1 4 (.mv (.t 16)) [16]]
/-- math/bits.RotateLeft64 -/
@[reducible] def fRot64 : KCode := (.seq (.reg fRot64_r0) (.seq (.reg fRot64_r1) (.seq (.reg fRot64_r2) .ret)))
@[reducible] def fRot64_rs : List IRes := [.tmp 4]
theorem fRot64_low : lowFunc Try.prog 138 [] [] = some ⟨fRot64.bare, fRot64_rs, 17⟩ := by kernel_rfl

@[reducible] def fGNew_r0 : List (DOper × List Nat) := [
  o1 0 (.mv (.k .nil)) [0]]
@[reducible] def fGNew_r1 : List (DOper × List Nat) := [
  o1 1 (.build [(.int .u64 0), (.int .u64 0), (.int .u64 0), (.int .u64 0), (.int .u64 0), (.int .u64 0), (.int .u64 0), (.int .u64 0)] [(0, 1, (.k (.int .u64 7640891576956012808))), (1, 1, (.k (.int .u64 13503953896175478587))), (2, 1, (.k (.int .u64 4354685564936845355))), (3, 1, (.k (.int .u64 11912009170470909681))), (4, 1, (.k (.int .u64 5840696475078001361))), (5, 1, (.k (.int .u64 11170449401992604703))), (6, 1, (.k (.int .u64 2270897969802886507))), (7, 1, (.k (.int .u64 6620516959819538809)))]) [],
  o1 2 (.build [(.int .u64 0), (.int .u64 0), (.int .u64 0), (.int .u64 0), (.int .u64 0), (.int .u64 0), (.int .u64 0), (.int .u64 0), (.list 1 ⟨true, true, false⟩ []), (.int .u64 0)] [(0, 8, (.t 1))]) [1],
  o1 3 (.box 184 (.t 2)) [2],
  o1 0 (.mv (.t 3)) [3]]
/-- bosun/longsum.New -/
@[reducible] def fGNew : KCode := (.seq (.reg fGNew_r0) (.seq (.reg fGNew_r1) .ret))
@[reducible] def fGNew_rs : List IRes := [.tmp 0]
theorem fGNew_low : lowFunc Try.prog 128 [] [] = some ⟨fGNew.bare, fGNew_rs, 4⟩ := by kernel_rfl

@[reducible] def fGOf_r0 : List (DOper × List Nat) := [
  o1 2 (.alloc 150 [(.int .u8 0), (.int .u8 0), (.int .u8 0), (.int .u8 0), (.int .u8 0), (.int .u8 0), (.int .u8 0), (.int .u8 0), (.int .u8 0), (.int .u8 0), (.int .u8 0), (.int .u8 0), (.int .u8 0), (.int .u8 0), (.int .u8 0), (.int .u8 0), (.int .u8 0), (.int .u8 0), (.int .u8 0), (.int .u8 0), (.int .u8 0), (.int .u8 0), (.int .u8 0), (.int .u8 0), (.int .u8 0), (.int .u8 0), (.int .u8 0), (.int .u8 0), (.int .u8 0), (.int .u8 0), (.int .u8 0), (.int .u8 0), (.int .u8 0), (.int .u8 0), (.int .u8 0), (.int .u8 0), (.int .u8 0), (.int .u8 0), (.int .u8 0), (.int .u8 0), (.int .u8 0), (.int .u8 0), (.int .u8 0), (.int .u8 0), (.int .u8 0), (.int .u8 0), (.int .u8 0), (.int .u8 0), (.int .u8 0), (.int .u8 0), (.int .u8 0), (.int .u8 0), (.int .u8 0), (.int .u8 0), (.int .u8 0), (.int .u8 0), (.int .u8 0), (.int .u8 0), (.int .u8 0), (.int .u8 0), (.int .u8 0), (.int .u8 0), (.int .u8 0), (.int .u8 0)]) []]
@[reducible] def fGOf_r1 : List (DOper × List Nat) := [
  o1 6 (.call 128 []) [],
  o1 3 (.mv (.t 6)) [6]]
@[reducible] def fGOf_r2 : List (DOper × List Nat) := [
  o1 7 (.mv (.t 0)) [0],
  o1 8 (.len true (.t 7)) [],
  o1 9 (.mv (.k (.int .i64 0))) []]
@[reducible] def fGOf_r3 : List (DOper × List Nat) := [
  o1 10 (.bin false .lss (.t 9) (.t 8)) []]
@[reducible] def fGOf_k0 : KCode := (.keep [2, 3] (.exit 0))
@[reducible] def fGOf_r4 : List (DOper × List Nat) := [
  o1 11 (.idxS 1 (.t 7) (.t 9)) [],
  o1 12 (.load none (.t 11)) [11],
  o1 5 (.mv (.t 12)) [12]]
@[reducible] def fGOf_r5 : List (DOper × List Nat) := [
  o1 13 (.mv (.t 3)) [],
  o1 14 (.mv (.t 5)) [5],
  o1 15 (.call 129 [(.t 13), (.t 14)]) [13, 14, 15]]
@[reducible] def fGOf_r6 : List (DOper × List Nat) := [
  o1 16 (.bin false .add (.t 9) (.k (.int .i64 1))) [9],
  o1 9 (.mv (.t 16)) [16]]
/-- live: [2, 3, 7, 8, 9] -/
@[reducible] def fGOf_l1 : KCode := (.seq (.reg fGOf_r3) (.seq (.cond (.t 10) (.kill [10] .skip) fGOf_k0) (.kill [10] (.seq (.block 1 (.seq (.reg fGOf_r4) (.reg fGOf_r5))) (.keep [2, 3, 7, 8, 9] (.reg fGOf_r6))))))
@[reducible] def fGOf_r7 : List (DOper × List Nat) := [
  o1 17 (.mv (.t 3)) [3],
  o1 18 (.call 130 [(.t 17)]) [17],
  (⟨⟨none, none, .store 64 (.t 2) (.t 18)⟩, 0, []⟩, [18])]
/-- bosun/longsum.Of -/
@[reducible] def fGOf : KCode := (.seq (.reg fGOf_r0) (.seq (.reg fGOf_r1) (.seq (.seq (.reg fGOf_r2) (.block 0 (.loop fGOf_l1))) (.keep [2, 3] (.seq (.reg fGOf_r7) .ret)))))
@[reducible] def fGOf_rs : List IRes := [.cell 2 (some 64)]
theorem fGOf_low : lowFunc Try.prog 99 [] [] = some ⟨fGOf.bare, fGOf_rs, 19⟩ := by kernel_rfl

@[reducible] def fGWrite_r0 : List (DOper × List Nat) := [
  o1 4 (.mv (.t 0)) [],
  o1 5 (.isNil false 0 (.t 4)) [4]]
@[reducible] def fGWrite_r1 : List (DOper × List Nat) := [
  o1 6 (.mv (.t 0)) [],
  o1 7 (.nilCheck (.t 6)) [],
  o1 8 (.fieldAddr 9 (.t 7)) [7],
  o1 9 (.load none (.t 8)) [8],
  o1 10 (.mv (.t 1)) [],
  o1 11 (.len true (.t 10)) [10],
  o1 12 (.convI .u64 (.t 11)) [11],
  o1 13 (.bin false .add (.t 9) (.t 12)) [9, 12],
  o1 14 (.nilCheck (.t 6)) [6],
  o1 15 (.fieldAddr 9 (.t 14)) [14],
  (⟨⟨none, none, .store 1 (.t 15) (.t 13)⟩, 0, []⟩, [13, 15])]
@[reducible] def fGWrite_r2 : List (DOper × List Nat) := [
  o1 16 (.mv (.t 0)) [],
  o1 17 (.mv (.t 0)) [],
  o1 18 (.nilCheck (.t 17)) [17],
  o1 19 (.fieldAddr 8 (.t 18)) [18],
  o1 20 (.load none (.t 19)) [19],
  o1 21 (.mv (.t 1)) [1],
  o1 22 (.appO 5 1 1 (.t 20) (.t 21)) [20, 21],
  o1 23 (.nilCheck (.t 16)) [16],
  o1 24 (.fieldAddr 8 (.t 23)) [23],
  (⟨⟨none, none, .store 1 (.t 24) (.t 22)⟩, 0, []⟩, [22, 24])]
@[reducible] def fGWrite_r3 : List (DOper × List Nat) := [
  o1 25 (.mv (.t 0)) [],
  o1 26 (.nilCheck (.t 25)) [25],
  o1 27 (.fieldAddr 8 (.t 26)) [26],
  o1 28 (.load none (.t 27)) [27],
  o1 29 (.len true (.t 28)) [28],
  o1 30 (.bin false .geq (.t 29) (.k (.int .i64 128))) [29]]
@[reducible] def fGWrite_r4 : List (DOper × List Nat) := [
  o1 31 (.mv (.t 0)) [],
  o1 32 (.mv (.t 0)) [],
  o1 33 (.nilCheck (.t 32)) [32],
  o1 34 (.fieldAddr 8 (.t 33)) [33],
  o1 35 (.load none (.t 34)) [34],
  o1 36 (.slS 1 (.t 35) none (some (.k (.int .i64 128))) none) [35],
  o1 37 (.call 135 [(.t 31), (.t 36)]) [31, 36, 37]]
@[reducible] def fGWrite_r5 : List (DOper × List Nat) := [
  o1 38 (.mv (.t 0)) [],
  o1 39 (.mv (.t 0)) [],
  o1 40 (.nilCheck (.t 39)) [39],
  o1 41 (.fieldAddr 8 (.t 40)) [40],
  o1 42 (.load none (.t 41)) [41],
  o1 43 (.slS 1 (.t 42) (some (.k (.int .i64 128))) none none) [42],
  o1 44 (.nilCheck (.t 38)) [38],
  o1 45 (.fieldAddr 8 (.t 44)) [44],
  (⟨⟨none, none, .store 1 (.t 45) (.t 43)⟩, 0, []⟩, [43, 45])]
/-- live: [0] -/
@[reducible] def fGWrite_l0 : KCode := (.seq (.seq (.reg fGWrite_r3) (.cond (.t 30) (.kill [30] .skip) (.keep [] (.exit 0)))) (.keep [0] (.block 1 (.seq (.reg fGWrite_r4) (.reg fGWrite_r5)))))
/-- (*bosun/longsum.Hash).Write -/
@[reducible] def fGWrite : KCode := (.seq (.seq (.reg fGWrite_r0) (.cond (.t 5) (.keep [] .ret) (.kill [5] .skip))) (.kill [4, 5] (.seq (.reg fGWrite_r1) (.seq (.reg fGWrite_r2) (.block 0 (.loop fGWrite_l0))))))
@[reducible] def fGWrite_rs : List IRes := []
theorem fGWrite_low : lowFunc Try.prog 129 [] [] = some ⟨fGWrite.bare, fGWrite_rs, 46⟩ := by kernel_rfl

@[reducible] def fGSum_r0 : List (DOper × List Nat) := [
  o1 2 (.alloc 150 [(.int .u8 0), (.int .u8 0), (.int .u8 0), (.int .u8 0), (.int .u8 0), (.int .u8 0), (.int .u8 0), (.int .u8 0), (.int .u8 0), (.int .u8 0), (.int .u8 0), (.int .u8 0), (.int .u8 0), (.int .u8 0), (.int .u8 0), (.int .u8 0), (.int .u8 0), (.int .u8 0), (.int .u8 0), (.int .u8 0), (.int .u8 0), (.int .u8 0), (.int .u8 0), (.int .u8 0), (.int .u8 0), (.int .u8 0), (.int .u8 0), (.int .u8 0), (.int .u8 0), (.int .u8 0), (.int .u8 0), (.int .u8 0), (.int .u8 0), (.int .u8 0), (.int .u8 0), (.int .u8 0), (.int .u8 0), (.int .u8 0), (.int .u8 0), (.int .u8 0), (.int .u8 0), (.int .u8 0), (.int .u8 0), (.int .u8 0), (.int .u8 0), (.int .u8 0), (.int .u8 0), (.int .u8 0), (.int .u8 0), (.int .u8 0), (.int .u8 0), (.int .u8 0), (.int .u8 0), (.int .u8 0), (.int .u8 0), (.int .u8 0), (.int .u8 0), (.int .u8 0), (.int .u8 0), (.int .u8 0), (.int .u8 0), (.int .u8 0), (.int .u8 0), (.int .u8 0)]) []]
@[reducible] def fGSum_r1 : List (DOper × List Nat) := [
  o1 10 (.mv (.t 0)) [],
  o1 11 (.isNil false 0 (.t 10)) [10]]
@[reducible] def fGSum_r2 : List (DOper × List Nat) := [
  o1 12 (.build [(.int .u8 0), (.int .u8 0), (.int .u8 0), (.int .u8 0), (.int .u8 0), (.int .u8 0), (.int .u8 0), (.int .u8 0), (.int .u8 0), (.int .u8 0), (.int .u8 0), (.int .u8 0), (.int .u8 0), (.int .u8 0), (.int .u8 0), (.int .u8 0), (.int .u8 0), (.int .u8 0), (.int .u8 0), (.int .u8 0), (.int .u8 0), (.int .u8 0), (.int .u8 0), (.int .u8 0), (.int .u8 0), (.int .u8 0), (.int .u8 0), (.int .u8 0), (.int .u8 0), (.int .u8 0), (.int .u8 0), (.int .u8 0), (.int .u8 0), (.int .u8 0), (.int .u8 0), (.int .u8 0), (.int .u8 0), (.int .u8 0), (.int .u8 0), (.int .u8 0), (.int .u8 0), (.int .u8 0), (.int .u8 0), (.int .u8 0), (.int .u8 0), (.int .u8 0), (.int .u8 0), (.int .u8 0), (.int .u8 0), (.int .u8 0), (.int .u8 0), (.int .u8 0), (.int .u8 0), (.int .u8 0), (.int .u8 0), (.int .u8 0), (.int .u8 0), (.int .u8 0), (.int .u8 0), (.int .u8 0), (.int .u8 0), (.int .u8 0), (.int .u8 0), (.int .u8 0)] []) [],
  (⟨⟨none, none, .store 64 (.t 2) (.t 12)⟩, 0, []⟩, [12])]
@[reducible] def fGSum_k0 : KCode := (.keep [2] (.seq (.reg fGSum_r2) .ret))
@[reducible] def fGSum_r3 : List (DOper × List Nat) := [
  o1 13 (.mv (.t 0)) [],
  o2 14 1 (.nilCheck (.t 13)) [13],
  o2 15 2 (.fieldAddr 0 (.t 14)) [14],
  o2 16 3 (.load (some 8) (.t 15)) [15],
  o2 17 4 (.buildF 5 1 [] []) [],
  o2 18 5 (.mv (.t 0)) [],
  o2 19 6 (.nilCheck (.t 18)) [18],
  o2 20 7 (.fieldAddr 8 (.t 19)) [19],
  o2 21 8 (.load none (.t 20)) [20],
  (⟨⟨(some 22), none, .appO 5 1 1 (.t 17) (.t 21)⟩, 9, [3]⟩, [17, 21]),
  o2 23 10 (.build [(.int .u64 0), (.int .u64 0), (.int .u64 0), (.int .u64 0), (.int .u64 0), (.int .u64 0), (.int .u64 0), (.int .u64 0), (.list 1 ⟨true, true, false⟩ []), (.int .u64 0)] [(0, 8, (.t 16)), (8, 1, (.t 22))]) [16, 22],
  o2 24 11 (.box 184 (.t 23)) [23],
  o2 3 12 (.mv (.t 24)) [24]]
@[reducible] def fGSum_r4 : List (DOper × List Nat) := [
  o1 25 (.buildO 5 1 [(.int .u8 0)] [(0, 1, (.k (.int .u8 128)))]) [],
  o1 4 (.mv (.t 25)) [25]]
@[reducible] def fGSum_r5 : List (DOper × List Nat) := [
  o1 26 (.mv (.t 0)) [],
  o1 27 (.nilCheck (.t 26)) [26],
  o1 28 (.fieldAddr 8 (.t 27)) [27],
  o1 29 (.load none (.t 28)) [28],
  o1 30 (.len true (.t 29)) [29],
  o1 31 (.mv (.t 4)) [],
  o1 32 (.len true (.t 31)) [31],
  o1 33 (.bin false .add (.t 30) (.t 32)) [30, 32],
  o1 34 (.bin false .rem (.t 33) (.k (.int .i64 128))) [33],
  o1 35 (.bin false .neq (.t 34) (.k (.int .i64 112))) [34]]
@[reducible] def fGSum_r6 : List (DOper × List Nat) := [
  o1 36 (.mv (.t 4)) [4],
  o1 37 (.buildF 5 1 [(.int .u8 0)] [(0, 1, (.k (.int .u8 0)))]) [],
  o1 38 (.appO 5 1 1 (.t 36) (.t 37)) [36, 37],
  o1 4 (.mv (.t 38)) [38]]
/-- live: [0, 2, 3, 4] -/
@[reducible] def fGSum_l1 : KCode := (.seq (.seq (.reg fGSum_r5) (.cond (.t 35) (.kill [35] .skip) (.kill [35] (.exit 0)))) (.keep [0, 2, 3, 4] (.block 1 (.reg fGSum_r6))))
@[reducible] def fGSum_r7 : List (DOper × List Nat) := [
  o1 39 (.mv (.t 4)) [4],
  o1 40 (.appO 5 1 1 (.t 39) (.k (.list 1 ⟨false, true, false⟩ [(.int .u8 0), (.int .u8 0), (.int .u8 0), (.int .u8 0), (.int .u8 0), (.int .u8 0), (.int .u8 0), (.int .u8 0)]))) [39],
  o1 4 (.mv (.t 40)) [40]]
@[reducible] def fGSum_r8 : List (DOper × List Nat) := [
  o1 41 (.mv (.k (.int .i64 0))) []]
@[reducible] def fGSum_r9 : List (DOper × List Nat) := [
  o1 42 (.bin false .lss (.t 41) (.k (.int .i64 8))) []]
@[reducible] def fGSum_k2 : KCode := (.kill [0, 41, 42] (.exit 2))
@[reducible] def fGSum_r10 : List (DOper × List Nat) := [
  o1 43 (.mv (.t 41)) [],
  o1 5 (.mv (.t 43)) [43]]
@[reducible] def fGSum_r11 : List (DOper × List Nat) := [
  o1 44 (.mv (.t 4)) [4],
  o1 45 (.mv (.t 0)) [],
  o1 46 (.nilCheck (.t 45)) [45],
  o1 47 (.fieldAddr 9 (.t 46)) [46],
  o1 48 (.load none (.t 47)) [47],
  o1 49 (.bin false .mul (.k (.int .u64 8)) (.t 48)) [48],
  o1 50 (.mv (.t 5)) [5],
  o1 51 (.bin false .mul (.k (.int .i64 8)) (.t 50)) [50],
  o1 52 (.bin false .sub (.k (.int .i64 56)) (.t 51)) [51],
  o1 53 (.bin false .shr (.t 49) (.t 52)) [49, 52],
  o1 54 (.convI .u8 (.t 53)) [53],
  o1 55 (.buildF 5 1 [(.int .u8 0)] [(0, 1, (.t 54))]) [54],
  o1 56 (.appO 5 1 1 (.t 44) (.t 55)) [44, 55],
  o1 4 (.mv (.t 56)) [56]]
@[reducible] def fGSum_r12 : List (DOper × List Nat) := [
  o1 57 (.bin false .add (.t 41) (.k (.int .i64 1))) [41],
  o1 41 (.mv (.t 57)) [57]]
/-- live: [0, 2, 3, 4, 41] -/
@[reducible] def fGSum_l3 : KCode := (.seq (.reg fGSum_r9) (.seq (.cond (.t 42) (.kill [42] .skip) fGSum_k2) (.kill [42] (.seq (.block 3 (.seq (.reg fGSum_r10) (.reg fGSum_r11))) (.keep [0, 2, 3, 4, 41] (.reg fGSum_r12))))))
@[reducible] def fGSum_r13 : List (DOper × List Nat) := [
  o1 58 (.mv (.t 3)) [],
  o1 59 (.mv (.t 4)) [4],
  o1 60 (.call 129 [(.t 58), (.t 59)]) [58, 59, 60]]
@[reducible] def fGSum_r14 : List (DOper × List Nat) := [
  o1 6 (.alloc 150 [(.int .u8 0), (.int .u8 0), (.int .u8 0), (.int .u8 0), (.int .u8 0), (.int .u8 0), (.int .u8 0), (.int .u8 0), (.int .u8 0), (.int .u8 0), (.int .u8 0), (.int .u8 0), (.int .u8 0), (.int .u8 0), (.int .u8 0), (.int .u8 0), (.int .u8 0), (.int .u8 0), (.int .u8 0), (.int .u8 0), (.int .u8 0), (.int .u8 0), (.int .u8 0), (.int .u8 0), (.int .u8 0), (.int .u8 0), (.int .u8 0), (.int .u8 0), (.int .u8 0), (.int .u8 0), (.int .u8 0), (.int .u8 0), (.int .u8 0), (.int .u8 0), (.int .u8 0), (.int .u8 0), (.int .u8 0), (.int .u8 0), (.int .u8 0), (.int .u8 0), (.int .u8 0), (.int .u8 0), (.int .u8 0), (.int .u8 0), (.int .u8 0), (.int .u8 0), (.int .u8 0), (.int .u8 0), (.int .u8 0), (.int .u8 0), (.int .u8 0), (.int .u8 0), (.int .u8 0), (.int .u8 0), (.int .u8 0), (.int .u8 0), (.int .u8 0), (.int .u8 0), (.int .u8 0), (.int .u8 0), (.int .u8 0), (.int .u8 0), (.int .u8 0), (.int .u8 0)]) []]
@[reducible] def fGSum_r15 : List (DOper × List Nat) := [
  o1 61 (.mv (.t 3)) [3],
  o1 62 (.nilCheck (.t 61)) [61],
  o1 63 (.fieldAddr 0 (.t 62)) [62],
  o1 64 (.load (some 8) (.t 63)) [63],
  o1 65 (.mv (.k (.int .i64 0))) []]
@[reducible] def fGSum_r16 : List (DOper × List Nat) := [
  o1 66 (.bin false .lss (.t 65) (.k (.int .i64 8))) []]
@[reducible] def fGSum_k4 : KCode := (.keep [2, 6] (.exit 4))
@[reducible] def fGSum_r17 : List (DOper × List Nat) := [
  o1 67 (.mv (.t 65)) [],
  o1 68 (.ixA 8 1 none (.t 64) (.t 65)) [],
  o1 7 (.mv (.t 67)) [67],
  o1 8 (.mv (.t 68)) [68]]
@[reducible] def fGSum_r18 : List (DOper × List Nat) := [
  o1 69 (.mv (.k (.int .i64 0))) []]
@[reducible] def fGSum_r19 : List (DOper × List Nat) := [
  o1 70 (.bin false .lss (.t 69) (.k (.int .i64 8))) []]
@[reducible] def fGSum_k5 : KCode := (.kill [7, 8, 69, 70] (.exit 6))
@[reducible] def fGSum_r20 : List (DOper × List Nat) := [
  o1 71 (.mv (.t 69)) [],
  o1 9 (.mv (.t 71)) [71]]
@[reducible] def fGSum_r21 : List (DOper × List Nat) := [
  o1 72 (.mv (.t 7)) [],
  o1 73 (.bin false .mul (.k (.int .i64 8)) (.t 72)) [72],
  o1 74 (.mv (.t 9)) [],
  o1 75 (.bin false .add (.t 73) (.t 74)) [73, 74],
  o1 76 (.mv (.t 8)) [],
  o1 77 (.mv (.t 9)) [9],
  o1 78 (.bin false .mul (.k (.int .i64 8)) (.t 77)) [77],
  o1 79 (.bin false .sub (.k (.int .i64 56)) (.t 78)) [78],
  o1 80 (.bin false .shr (.t 76) (.t 79)) [76, 79],
  o1 81 (.convI .u8 (.t 80)) [80],
  o1 82 (.idxA 64 1 (.t 6) (.t 75)) [75],
  (⟨⟨none, none, .store 1 (.t 82) (.t 81)⟩, 0, []⟩, [81, 82])]
@[reducible] def fGSum_r22 : List (DOper × List Nat) := [
  o1 83 (.bin false .add (.t 69) (.k (.int .i64 1))) [69],
  o1 69 (.mv (.t 83)) [83]]
/-- live: [2, 6, 7, 8, 64, 65, 69] -/
@[reducible] def fGSum_l6 : KCode := (.seq (.reg fGSum_r19) (.seq (.cond (.t 70) (.kill [70] .skip) fGSum_k5) (.kill [70] (.seq (.block 7 (.seq (.reg fGSum_r20) (.reg fGSum_r21))) (.keep [2, 6, 7, 8, 64, 65, 69] (.reg fGSum_r22))))))
@[reducible] def fGSum_r23 : List (DOper × List Nat) := [
  o1 84 (.bin false .add (.t 65) (.k (.int .i64 1))) [65],
  o1 65 (.mv (.t 84)) [84]]
/-- live: [2, 6, 64, 65] -/
@[reducible] def fGSum_l7 : KCode := (.seq (.reg fGSum_r16) (.seq (.cond (.t 66) (.kill [66] .skip) fGSum_k4) (.kill [66] (.seq (.block 5 (.seq (.reg fGSum_r17) (.seq (.reg fGSum_r18) (.block 6 (.loop fGSum_l6))))) (.keep [2, 6, 64, 65] (.reg fGSum_r23))))))
@[reducible] def fGSum_r24 : List (DOper × List Nat) := [
  o1 85 (.load (some 64) (.t 6)) [6],
  (⟨⟨none, none, .store 64 (.t 2) (.t 85)⟩, 0, []⟩, [85])]
/-- (*bosun/longsum.Hash).Sum -/
@[reducible] def fGSum : KCode := (.seq (.reg fGSum_r0) (.seq (.seq (.reg fGSum_r1) (.cond (.t 11) fGSum_k0 (.kill [11] .skip))) (.keep [0, 2] (.seq (.draw fGSum_r3) (.seq (.reg fGSum_r4) (.seq (.block 0 (.loop fGSum_l1)) (.keep [0, 2, 3, 4] (.seq (.reg fGSum_r7) (.seq (.seq (.reg fGSum_r8) (.block 2 (.loop fGSum_l3))) (.cut (.keep [2, 3, 4] (.seq (.reg fGSum_r13) (.seq (.reg fGSum_r14) (.seq (.seq (.reg fGSum_r15) (.block 4 (.loop fGSum_l7))) (.keep [2, 6] (.seq (.reg fGSum_r24) .ret))))))))))))))))
@[reducible] def fGSum_rs : List IRes := [.cell 2 (some 64)]
theorem fGSum_low : lowFunc Try.prog 130 [(4, 0)] [] = some ⟨fGSum.bare, fGSum_rs, 86⟩ := by kernel_rfl

@[reducible] def fGStep_r0 : List (DOper × List Nat) := [
  o1 4 (.alloc 188 [(.int .u64 0), (.int .u64 0), (.int .u64 0), (.int .u64 0), (.int .u64 0), (.int .u64 0), (.int .u64 0), (.int .u64 0), (.int .u64 0), (.int .u64 0), (.int .u64 0), (.int .u64 0), (.int .u64 0), (.int .u64 0), (.int .u64 0), (.int .u64 0), (.int .u64 0), (.int .u64 0), (.int .u64 0), (.int .u64 0), (.int .u64 0), (.int .u64 0), (.int .u64 0), (.int .u64 0), (.int .u64 0), (.int .u64 0), (.int .u64 0), (.int .u64 0), (.int .u64 0), (.int .u64 0), (.int .u64 0), (.int .u64 0), (.int .u64 0), (.int .u64 0), (.int .u64 0), (.int .u64 0), (.int .u64 0), (.int .u64 0), (.int .u64 0), (.int .u64 0), (.int .u64 0), (.int .u64 0), (.int .u64 0), (.int .u64 0), (.int .u64 0), (.int .u64 0), (.int .u64 0), (.int .u64 0), (.int .u64 0), (.int .u64 0), (.int .u64 0), (.int .u64 0), (.int .u64 0), (.int .u64 0), (.int .u64 0), (.int .u64 0), (.int .u64 0), (.int .u64 0), (.int .u64 0), (.int .u64 0), (.int .u64 0), (.int .u64 0), (.int .u64 0), (.int .u64 0), (.int .u64 0), (.int .u64 0), (.int .u64 0), (.int .u64 0), (.int .u64 0), (.int .u64 0), (.int .u64 0), (.int .u64 0), (.int .u64 0), (.int .u64 0), (.int .u64 0), (.int .u64 0), (.int .u64 0), (.int .u64 0), (.int .u64 0), (.int .u64 0)]) []]
@[reducible] def fGStep_r1 : List (DOper × List Nat) := [
  o1 21 (.mv (.k (.int .i64 0))) []]
@[reducible] def fGStep_r2 : List (DOper × List Nat) := [
  o1 22 (.bin false .lss (.t 21) (.k (.int .i64 80))) []]
@[reducible] def fGStep_k0 : KCode := (.keep [0, 4] (.exit 0))
@[reducible] def fGStep_r3 : List (DOper × List Nat) := [
  o1 23 (.mv (.t 21)) [],
  o1 5 (.mv (.t 23)) [23]]
@[reducible] def fGStep_r4 : List (DOper × List Nat) := [
  o1 24 (.mv (.t 5)) [],
  o1 25 (.bin false .lss (.t 24) (.k (.int .i64 16))) [24]]
@[reducible] def fGStep_r5 : List (DOper × List Nat) := [
  o1 26 (.mv (.k (.int .i64 0))) []]
@[reducible] def fGStep_r6 : List (DOper × List Nat) := [
  o1 27 (.bin false .lss (.t 26) (.k (.int .i64 8))) []]
@[reducible] def fGStep_k1 : KCode := (.kill [5, 26, 27] (.exit 2))
@[reducible] def fGStep_r7 : List (DOper × List Nat) := [
  o1 28 (.mv (.t 26)) [],
  o1 6 (.mv (.t 28)) [28]]
@[reducible] def fGStep_r8 : List (DOper × List Nat) := [
  o1 29 (.mv (.t 5)) [],
  o2 30 1 (.mv (.t 5)) [],
  o2 31 2 (.idxA 80 1 (.t 4) (.t 30)) [30],
  o2 32 3 (.load none (.t 31)) [31],
  o2 33 4 (.bin false .shl (.t 32) (.k (.int .u64 8))) [32],
  o2 34 5 (.mv (.t 1)) [],
  o2 35 6 (.mv (.t 5)) [],
  o2 36 7 (.bin false .mul (.k (.int .i64 8)) (.t 35)) [35],
  o2 37 8 (.mv (.t 6)) [6],
  o2 38 9 (.bin false .add (.t 36) (.t 37)) [36, 37],
  o2 39 10 (.idxS 1 (.t 34) (.t 38)) [34, 38],
  o2 40 11 (.load none (.t 39)) [39],
  o2 41 12 (.convI .u64 (.t 40)) [40],
  o2 42 13 (.bin false .or (.t 33) (.t 41)) [33, 41],
  o2 43 14 (.idxA 80 1 (.t 4) (.t 29)) [29],
  (⟨⟨none, none, .store 1 (.t 43) (.t 42)⟩, 15, []⟩, [42, 43])]
@[reducible] def fGStep_r9 : List (DOper × List Nat) := [
  o1 44 (.bin false .add (.t 26) (.k (.int .i64 1))) [26],
  o1 26 (.mv (.t 44)) [44]]
/-- live: [0, 1, 4, 5, 21, 26] -/
@[reducible] def fGStep_l2 : KCode := (.seq (.reg fGStep_r6) (.seq (.cond (.t 27) (.kill [27] .skip) fGStep_k1) (.kill [27] (.seq (.block 3 (.seq (.reg fGStep_r7) (.draw fGStep_r8))) (.keep [0, 1, 4, 5, 21, 26] (.reg fGStep_r9))))))
@[reducible] def fGStep_k3 : KCode := (.kill [25] (.seq (.seq (.reg fGStep_r5) (.block 2 (.loop fGStep_l2))) (.keep [0, 1, 4, 21] (.exit 1))))
@[reducible] def fGStep_r10 : List (DOper × List Nat) := [
  o1 45 (.mv (.t 5)) [],
  o2 46 1 (.bin false .sub (.t 45) (.k (.int .i64 15))) [45],
  o2 47 2 (.idxA 80 1 (.t 4) (.t 46)) [46],
  o2 48 3 (.load none (.t 47)) [47],
  o2 49 4 (.mv (.t 5)) [],
  o2 50 5 (.bin false .sub (.t 49) (.k (.int .i64 2))) [49],
  o2 51 6 (.idxA 80 1 (.t 4) (.t 50)) [50],
  o2 52 7 (.load none (.t 51)) [51],
  o2 7 8 (.mv (.t 48)) [48],
  o2 8 9 (.mv (.t 52)) [52]]
@[reducible] def fGStep_r11 : List (DOper × List Nat) := [
  o1 53 (.mv (.t 7)) [],
  o1 54 (.call 138 [(.t 53), (.k (.int .i64 (-1)))]) [53],
  o1 55 (.mv (.t 7)) [],
  o1 56 (.call 138 [(.t 55), (.k (.int .i64 (-8)))]) [55],
  o1 57 (.bin false .xor (.t 54) (.t 56)) [54, 56],
  o1 58 (.mv (.t 7)) [7],
  o1 59 (.bin false .shr (.t 58) (.k (.int .u64 7))) [58],
  o1 60 (.bin false .xor (.t 57) (.t 59)) [57, 59],
  o1 9 (.mv (.t 60)) [60]]
@[reducible] def fGStep_r12 : List (DOper × List Nat) := [
  o1 61 (.mv (.t 8)) [],
  o1 62 (.call 138 [(.t 61), (.k (.int .i64 (-19)))]) [61],
  o1 63 (.mv (.t 8)) [],
  o1 64 (.call 138 [(.t 63), (.k (.int .i64 (-61)))]) [63],
  o1 65 (.bin false .xor (.t 62) (.t 64)) [62, 64],
  o1 66 (.mv (.t 8)) [8],
  o1 67 (.bin false .shr (.t 66) (.k (.int .u64 6))) [66],
  o1 68 (.bin false .xor (.t 65) (.t 67)) [65, 67],
  o1 10 (.mv (.t 68)) [68]]
@[reducible] def fGStep_r13 : List (DOper × List Nat) := [
  o1 69 (.mv (.t 5)) [],
  o2 70 1 (.mv (.t 5)) [],
  o2 71 2 (.bin false .sub (.t 70) (.k (.int .i64 16))) [70],
  o2 72 3 (.idxA 80 1 (.t 4) (.t 71)) [71],
  o2 73 4 (.load none (.t 72)) [72],
  o2 74 5 (.mv (.t 9)) [9],
  o2 75 6 (.bin false .add (.t 73) (.t 74)) [73, 74],
  o2 76 7 (.mv (.t 5)) [5],
  o2 77 8 (.bin false .sub (.t 76) (.k (.int .i64 7))) [76],
  o2 78 9 (.idxA 80 1 (.t 4) (.t 77)) [77],
  o2 79 10 (.load none (.t 78)) [78],
  o2 80 11 (.bin false .add (.t 75) (.t 79)) [75, 79],
  o2 81 12 (.mv (.t 10)) [10],
  o2 82 13 (.bin false .add (.t 80) (.t 81)) [80, 81],
  o2 83 14 (.idxA 80 1 (.t 4) (.t 69)) [69],
  (⟨⟨none, none, .store 1 (.t 83) (.t 82)⟩, 15, []⟩, [82, 83])]
@[reducible] def fGStep_r14 : List (DOper × List Nat) := [
  o1 84 (.bin false .add (.t 21) (.k (.int .i64 1))) [21],
  o1 21 (.mv (.t 84)) [84]]
/-- live: [0, 1, 4, 21] -/
@[reducible] def fGStep_l4 : KCode := (.seq (.reg fGStep_r2) (.seq (.cond (.t 22) (.kill [22] .skip) fGStep_k0) (.kill [22] (.seq (.block 1 (.seq (.reg fGStep_r3) (.seq (.seq (.reg fGStep_r4) (.cond (.t 25) fGStep_k3 (.kill [25] .skip))) (.keep [0, 1, 4, 5, 21] (.seq (.draw fGStep_r10) (.seq (.reg fGStep_r11) (.seq (.reg fGStep_r12) (.draw fGStep_r13)))))))) (.keep [0, 1, 4, 21] (.reg fGStep_r14))))))
@[reducible] def fGStep_r15 : List (DOper × List Nat) := [
  o1 85 (.callP 139 []) [],
  o2 86 1 (.mv (.t 0)) [],
  o2 87 2 (.nilCheck (.t 86)) [86],
  o2 88 3 (.fieldAddr 0 (.t 87)) [87],
  o2 89 4 (.load (some 8) (.t 88)) [88],
  (⟨⟨(some 11), none, .allocA 3 0 188 [(.int .u64 0), (.int .u64 0), (.int .u64 0), (.int .u64 0), (.int .u64 0), (.int .u64 0), (.int .u64 0), (.int .u64 0), (.int .u64 0), (.int .u64 0), (.int .u64 0), (.int .u64 0), (.int .u64 0), (.int .u64 0), (.int .u64 0), (.int .u64 0), (.int .u64 0), (.int .u64 0), (.int .u64 0), (.int .u64 0), (.int .u64 0), (.int .u64 0), (.int .u64 0), (.int .u64 0), (.int .u64 0), (.int .u64 0), (.int .u64 0), (.int .u64 0), (.int .u64 0), (.int .u64 0), (.int .u64 0), (.int .u64 0), (.int .u64 0), (.int .u64 0), (.int .u64 0), (.int .u64 0), (.int .u64 0), (.int .u64 0), (.int .u64 0), (.int .u64 0), (.int .u64 0), (.int .u64 0), (.int .u64 0), (.int .u64 0), (.int .u64 0), (.int .u64 0), (.int .u64 0), (.int .u64 0), (.int .u64 0), (.int .u64 0), (.int .u64 0), (.int .u64 0), (.int .u64 0), (.int .u64 0), (.int .u64 0), (.int .u64 0), (.int .u64 0), (.int .u64 0), (.int .u64 0), (.int .u64 0), (.int .u64 0), (.int .u64 0), (.int .u64 0), (.int .u64 0), (.int .u64 0), (.int .u64 0), (.int .u64 0), (.int .u64 0), (.int .u64 0), (.int .u64 0), (.int .u64 0), (.int .u64 0), (.int .u64 0), (.int .u64 0), (.int .u64 0), (.int .u64 0), (.int .u64 0), (.int .u64 0), (.int .u64 0), (.int .u64 0)]⟩, 5, [4]⟩, []),
  (⟨⟨(some 12), none, .allocA 3 1 180 [(.int .u64 0), (.int .u64 0), (.int .u64 0), (.int .u64 0), (.int .u64 0), (.int .u64 0), (.int .u64 0), (.int .u64 0)]⟩, 6, [4]⟩, []),
  (⟨⟨none, none, .store 80 (.t 11) (.t 85)⟩, 7, [4]⟩, [85]),
  (⟨⟨none, none, .store 8 (.t 12) (.t 89)⟩, 8, []⟩, [89])]
@[reducible] def fGStep_r16 : List (DOper × List Nat) := [
  o1 90 (.mv (.k (.int .i64 0))) []]
@[reducible] def fGStep_r17 : List (DOper × List Nat) := [
  o1 91 (.bin false .lss (.t 90) (.k (.int .i64 80))) []]
@[reducible] def fGStep_k5 : KCode := (.keep [0, 12] (.exit 4))
@[reducible] def fGStep_r18 : List (DOper × List Nat) := [
  o1 92 (.mv (.t 90)) [],
  o1 13 (.mv (.t 92)) [92]]
@[reducible] def fGStep_r19 : List (DOper × List Nat) := [
  o1 93 (.idxA 8 1 (.t 12) (.k (.int .i64 4))) [],
  o2 94 1 (.load none (.t 93)) [93],
  o2 95 2 (.idxA 8 1 (.t 12) (.k (.int .i64 0))) [],
  o2 96 3 (.load none (.t 95)) [95],
  o2 14 4 (.mv (.t 94)) [94],
  o2 15 5 (.mv (.t 96)) [96]]
@[reducible] def fGStep_r20 : List (DOper × List Nat) := [
  o1 97 (.mv (.t 14)) [],
  o1 98 (.call 138 [(.t 97), (.k (.int .i64 (-14)))]) [97],
  o1 99 (.mv (.t 14)) [],
  o1 100 (.call 138 [(.t 99), (.k (.int .i64 (-18)))]) [99],
  o1 101 (.bin false .xor (.t 98) (.t 100)) [98, 100],
  o1 102 (.mv (.t 14)) [],
  o1 103 (.call 138 [(.t 102), (.k (.int .i64 (-41)))]) [102],
  o1 104 (.bin false .xor (.t 101) (.t 103)) [101, 103],
  o1 16 (.mv (.t 104)) [104]]
@[reducible] def fGStep_r21 : List (DOper × List Nat) := [
  o1 105 (.idxA 8 1 (.t 12) (.k (.int .i64 7))) [],
  o2 106 1 (.load none (.t 105)) [105],
  o2 107 2 (.mv (.t 16)) [16],
  o2 108 3 (.bin false .add (.t 106) (.t 107)) [106, 107],
  o2 109 4 (.mv (.t 14)) [],
  o2 110 5 (.idxA 8 1 (.t 12) (.k (.int .i64 5))) [],
  o2 111 6 (.load none (.t 110)) [110],
  o2 112 7 (.bin false .and (.t 109) (.t 111)) [109, 111],
  o2 113 8 (.mv (.t 14)) [],
  o2 114 9 (.un .xor (.t 113)) [113],
  o2 115 10 (.idxA 8 1 (.t 12) (.k (.int .i64 6))) [],
  o2 116 11 (.load none (.t 115)) [115],
  o2 117 12 (.bin false .and (.t 114) (.t 116)) [114, 116],
  o2 118 13 (.bin false .xor (.t 112) (.t 117)) [112, 117],
  o2 119 14 (.bin false .add (.t 108) (.t 118)) [108, 118],
  o2 120 15 (.mv (.t 13)) [],
  o2 121 16 (.idxA 80 1 (.t 11) (.t 120)) [120],
  o2 122 17 (.load none (.t 121)) [121],
  o2 123 18 (.bin false .add (.t 119) (.t 122)) [119, 122],
  o2 124 19 (.mv (.t 13)) [13],
  o2 125 20 (.idxA 80 1 (.t 4) (.t 124)) [124],
  o2 126 21 (.load none (.t 125)) [125],
  o2 127 22 (.bin false .add (.t 123) (.t 126)) [123, 126],
  o2 17 23 (.mv (.t 127)) [127]]
@[reducible] def fGStep_r22 : List (DOper × List Nat) := [
  o1 128 (.mv (.t 15)) [],
  o1 129 (.call 138 [(.t 128), (.k (.int .i64 (-28)))]) [128],
  o1 130 (.mv (.t 15)) [],
  o1 131 (.call 138 [(.t 130), (.k (.int .i64 (-34)))]) [130],
  o1 132 (.bin false .xor (.t 129) (.t 131)) [129, 131],
  o1 133 (.mv (.t 15)) [],
  o1 134 (.call 138 [(.t 133), (.k (.int .i64 (-39)))]) [133],
  o1 135 (.bin false .xor (.t 132) (.t 134)) [132, 134],
  o1 18 (.mv (.t 135)) [135]]
@[reducible] def fGStep_r23 : List (DOper × List Nat) := [
  o1 136 (.mv (.t 15)) [],
  o1 137 (.idxA 8 1 (.t 12) (.k (.int .i64 1))) [],
  o1 138 (.load none (.t 137)) [137],
  o1 139 (.bin false .and (.t 136) (.t 138)) [136, 138],
  o1 140 (.mv (.t 15)) [],
  o1 141 (.idxA 8 1 (.t 12) (.k (.int .i64 2))) [],
  o1 142 (.load none (.t 141)) [141],
  o1 143 (.bin false .and (.t 140) (.t 142)) [140, 142],
  o1 144 (.bin false .xor (.t 139) (.t 143)) [139, 143],
  o1 145 (.idxA 8 1 (.t 12) (.k (.int .i64 1))) [],
  o1 146 (.load none (.t 145)) [145],
  o1 147 (.idxA 8 1 (.t 12) (.k (.int .i64 2))) [],
  o1 148 (.load none (.t 147)) [147],
  o1 149 (.bin false .and (.t 146) (.t 148)) [146, 148],
  o1 150 (.bin false .xor (.t 144) (.t 149)) [144, 149],
  o1 19 (.mv (.t 150)) [150]]
@[reducible] def fGStep_r24 : List (DOper × List Nat) := [
  o1 151 (.mv (.t 17)) [],
  o1 152 (.mv (.t 18)) [18],
  o1 153 (.bin false .add (.t 151) (.t 152)) [151, 152],
  o1 154 (.mv (.t 19)) [19],
  o1 155 (.bin false .add (.t 153) (.t 154)) [153, 154],
  o1 156 (.mv (.t 15)) [15],
  o1 157 (.idxA 8 1 (.t 12) (.k (.int .i64 1))) [],
  o1 158 (.load none (.t 157)) [157],
  o1 159 (.idxA 8 1 (.t 12) (.k (.int .i64 2))) [],
  o1 160 (.load none (.t 159)) [159],
  o1 161 (.idxA 8 1 (.t 12) (.k (.int .i64 3))) [],
  o1 162 (.load none (.t 161)) [161],
  o1 163 (.mv (.t 17)) [17],
  o1 164 (.bin false .add (.t 162) (.t 163)) [162, 163],
  o1 165 (.mv (.t 14)) [14],
  o1 166 (.idxA 8 1 (.t 12) (.k (.int .i64 5))) [],
  o1 167 (.load none (.t 166)) [166],
  o1 168 (.idxA 8 1 (.t 12) (.k (.int .i64 6))) [],
  o1 169 (.load none (.t 168)) [168],
  o1 170 (.build [(.int .u64 0), (.int .u64 0), (.int .u64 0), (.int .u64 0), (.int .u64 0), (.int .u64 0), (.int .u64 0), (.int .u64 0)] [(0, 1, (.t 155)), (1, 1, (.t 156)), (2, 1, (.t 158)), (3, 1, (.t 160)), (4, 1, (.t 164)), (5, 1, (.t 165)), (6, 1, (.t 167)), (7, 1, (.t 169))]) [155, 156, 158, 160, 164, 165, 167, 169],
  (⟨⟨none, none, .store 8 (.t 12) (.t 170)⟩, 0, []⟩, [170])]
@[reducible] def fGStep_r25 : List (DOper × List Nat) := [
  o1 171 (.bin false .add (.t 90) (.k (.int .i64 1))) [90],
  o1 90 (.mv (.t 171)) [171]]
/-- live: [0, 4, 11, 12, 90] -/
@[reducible] def fGStep_l6 : KCode := (.seq (.reg fGStep_r17) (.seq (.cond (.t 91) (.kill [91] .skip) fGStep_k5) (.kill [91] (.seq (.block 5 (.seq (.reg fGStep_r18) (.seq (.draw fGStep_r19) (.seq (.reg fGStep_r20) (.seq (.draw fGStep_r21) (.seq (.reg fGStep_r22) (.seq (.reg fGStep_r23) (.reg fGStep_r24)))))))) (.keep [0, 4, 11, 12, 90] (.reg fGStep_r25))))))
@[reducible] def fGStep_r26 : List (DOper × List Nat) := [
  o1 172 (.mv (.k (.int .i64 0))) []]
@[reducible] def fGStep_r27 : List (DOper × List Nat) := [
  o1 173 (.bin false .lss (.t 172) (.k (.int .i64 8))) []]
@[reducible] def fGStep_r28 : List (DOper × List Nat) := [
  o1 174 (.mv (.t 172)) [],
  o1 20 (.mv (.t 174)) [174]]
@[reducible] def fGStep_r29 : List (DOper × List Nat) := [
  o1 175 (.mv (.t 0)) [],
  o2 176 1 (.mv (.t 20)) [],
  o2 177 2 (.nilCheck (.t 175)) [],
  o2 178 3 (.fieldAddr 0 (.t 177)) [177],
  o2 179 4 (.idxA 8 1 (.t 178) (.t 176)) [178],
  o2 180 5 (.load none (.t 179)) [179],
  o2 181 6 (.mv (.t 20)) [20],
  o2 182 7 (.idxA 8 1 (.t 12) (.t 181)) [181],
  o2 183 8 (.load none (.t 182)) [182],
  o2 184 9 (.bin false .add (.t 180) (.t 183)) [180, 183],
  o2 185 10 (.nilCheck (.t 175)) [175],
  o2 186 11 (.fieldAddr 0 (.t 185)) [185],
  o2 187 12 (.idxA 8 1 (.t 186) (.t 176)) [176, 186],
  (⟨⟨none, none, .store 1 (.t 187) (.t 184)⟩, 13, []⟩, [184, 187])]
@[reducible] def fGStep_r30 : List (DOper × List Nat) := [
  o1 188 (.bin false .add (.t 172) (.k (.int .i64 1))) [172],
  o1 172 (.mv (.t 188)) [188]]
/-- live: [0, 12, 172] -/
@[reducible] def fGStep_l7 : KCode := (.seq (.reg fGStep_r27) (.seq (.cond (.t 173) (.kill [173] .skip) (.keep [] (.exit 6))) (.kill [173] (.seq (.block 7 (.seq (.reg fGStep_r28) (.draw fGStep_r29))) (.keep [0, 12, 172] (.reg fGStep_r30))))))
/-- (*bosun/longsum.Hash).step -/
@[reducible] def fGStep : KCode := (.seq (.reg fGStep_r0) (.seq (.seq (.reg fGStep_r1) (.block 0 (.loop fGStep_l4))) (.keep [0, 4] (.seq (.drawP 3 2 fGStep_r15) (.seq (.seq (.reg fGStep_r16) (.block 4 (.loop fGStep_l6))) (.keep [0, 12] (.seq (.reg fGStep_r26) (.block 6 (.loop fGStep_l7)))))))))
@[reducible] def fGStep_rs : List IRes := []
theorem fGStep_low : lowFunc Try.prog 135 [(15, 0)] [(1000015, [3, 5, 6])] = some ⟨fGStep.bare, fGStep_rs, 189⟩ := by kernel_rfl

@[reducible] def fGRounds_r0 : List (DOper × List Nat) := [
  o1 0 (.alloc 188 [(.int .u64 0), (.int .u64 0), (.int .u64 0), (.int .u64 0), (.int .u64 0), (.int .u64 0), (.int .u64 0), (.int .u64 0), (.int .u64 0), (.int .u64 0), (.int .u64 0), (.int .u64 0), (.int .u64 0), (.int .u64 0), (.int .u64 0), (.int .u64 0), (.int .u64 0), (.int .u64 0), (.int .u64 0), (.int .u64 0), (.int .u64 0), (.int .u64 0), (.int .u64 0), (.int .u64 0), (.int .u64 0), (.int .u64 0), (.int .u64 0), (.int .u64 0), (.int .u64 0), (.int .u64 0), (.int .u64 0), (.int .u64 0), (.int .u64 0), (.int .u64 0), (.int .u64 0), (.int .u64 0), (.int .u64 0), (.int .u64 0), (.int .u64 0), (.int .u64 0), (.int .u64 0), (.int .u64 0), (.int .u64 0), (.int .u64 0), (.int .u64 0), (.int .u64 0), (.int .u64 0), (.int .u64 0), (.int .u64 0), (.int .u64 0), (.int .u64 0), (.int .u64 0), (.int .u64 0), (.int .u64 0), (.int .u64 0), (.int .u64 0), (.int .u64 0), (.int .u64 0), (.int .u64 0), (.int .u64 0), (.int .u64 0), (.int .u64 0), (.int .u64 0), (.int .u64 0), (.int .u64 0), (.int .u64 0), (.int .u64 0), (.int .u64 0), (.int .u64 0), (.int .u64 0), (.int .u64 0), (.int .u64 0), (.int .u64 0), (.int .u64 0), (.int .u64 0), (.int .u64 0), (.int .u64 0), (.int .u64 0), (.int .u64 0), (.int .u64 0)]) []]
@[reducible] def fGRounds_r1 : List (DOper × List Nat) := [
  o1 1 (.build [(.int .u64 0), (.int .u64 0), (.int .u64 0), (.int .u64 0), (.int .u64 0), (.int .u64 0), (.int .u64 0), (.int .u64 0), (.int .u64 0), (.int .u64 0), (.int .u64 0), (.int .u64 0), (.int .u64 0), (.int .u64 0), (.int .u64 0), (.int .u64 0), (.int .u64 0), (.int .u64 0), (.int .u64 0), (.int .u64 0), (.int .u64 0), (.int .u64 0), (.int .u64 0), (.int .u64 0), (.int .u64 0), (.int .u64 0), (.int .u64 0), (.int .u64 0), (.int .u64 0), (.int .u64 0), (.int .u64 0), (.int .u64 0), (.int .u64 0), (.int .u64 0), (.int .u64 0), (.int .u64 0), (.int .u64 0), (.int .u64 0), (.int .u64 0), (.int .u64 0), (.int .u64 0), (.int .u64 0), (.int .u64 0), (.int .u64 0), (.int .u64 0), (.int .u64 0), (.int .u64 0), (.int .u64 0), (.int .u64 0), (.int .u64 0), (.int .u64 0), (.int .u64 0), (.int .u64 0), (.int .u64 0), (.int .u64 0), (.int .u64 0), (.int .u64 0), (.int .u64 0), (.int .u64 0), (.int .u64 0), (.int .u64 0), (.int .u64 0), (.int .u64 0), (.int .u64 0), (.int .u64 0), (.int .u64 0), (.int .u64 0), (.int .u64 0), (.int .u64 0), (.int .u64 0), (.int .u64 0), (.int .u64 0), (.int .u64 0), (.int .u64 0), (.int .u64 0), (.int .u64 0), (.int .u64 0), (.int .u64 0), (.int .u64 0), (.int .u64 0)] [(0, 1, (.k (.int .u64 4794697086780616226))), (1, 1, (.k (.int .u64 8158064640168781261))), (2, 1, (.k (.int .u64 13096744586834688815))), (3, 1, (.k (.int .u64 16840607885511220156))), (4, 1, (.k (.int .u64 4131703408338449720))), (5, 1, (.k (.int .u64 6480981068601479193))), (6, 1, (.k (.int .u64 10538285296894168987))), (7, 1, (.k (.int .u64 12329834152419229976))), (8, 1, (.k (.int .u64 15566598209576043074))), (9, 1, (.k (.int .u64 1334009975649890238))), (10, 1, (.k (.int .u64 2608012711638119052))), (11, 1, (.k (.int .u64 6128411473006802146))), (12, 1, (.k (.int .u64 8268148722764581231))), (13, 1, (.k (.int .u64 9286055187155687089))), (14, 1, (.k (.int .u64 11230858885718282805))), (15, 1, (.k (.int .u64 13951009754708518548))), (16, 1, (.k (.int .u64 16472876342353939154))), (17, 1, (.k (.int .u64 17275323862435702243))), (18, 1, (.k (.int .u64 1135362057144423861))), (19, 1, (.k (.int .u64 2597628984639134821))), (20, 1, (.k (.int .u64 3308224258029322869))), (21, 1, (.k (.int .u64 5365058923640841347))), (22, 1, (.k (.int .u64 6679025012923562964))), (23, 1, (.k (.int .u64 8573033837759648693))), (24, 1, (.k (.int .u64 10970295158949994411))), (25, 1, (.k (.int .u64 12119686244451234320))), (26, 1, (.k (.int .u64 12683024718118986047))), (27, 1, (.k (.int .u64 13788192230050041572))), (28, 1, (.k (.int .u64 14330467153632333762))), (29, 1, (.k (.int .u64 15395433587784984357))), (30, 1, (.k (.int .u64 489312712824947311))), (31, 1, (.k (.int .u64 1452737877330783856))), (32, 1, (.k (.int .u64 2861767655752347644))), (33, 1, (.k (.int .u64 3322285676063803686))), (34, 1, (.k (.int .u64 5560940570517711597))), (35, 1, (.k (.int .u64 5996557281743188959))), (36, 1, (.k (.int .u64 7280758554555802590))), (37, 1, (.k (.int .u64 8532644243296465576))), (38, 1, (.k (.int .u64 9350256976987008742))), (39, 1, (.k (.int .u64 10552545826968843579))), (40, 1, (.k (.int .u64 11727347734174303076))), (41, 1, (.k (.int .u64 12113106623233404929))), (42, 1, (.k (.int .u64 14000437183269869457))), (43, 1, (.k (.int .u64 14369950271660146224))), (44, 1, (.k (.int .u64 15101387698204529176))), (45, 1, (.k (.int .u64 15463397548674623760))), (46, 1, (.k (.int .u64 17586052441742319658))), (47, 1, (.k (.int .u64 1182934255886127544))), (48, 1, (.k (.int .u64 1847814050463011016))), (49, 1, (.k (.int .u64 2177327727835720531))), (50, 1, (.k (.int .u64 2830643537854262169))), (51, 1, (.k (.int .u64 3796741975233480872))), (52, 1, (.k (.int .u64 4115178125766777443))), (53, 1, (.k (.int .u64 5681478168544905931))), (54, 1, (.k (.int .u64 6601373596472566643))), (55, 1, (.k (.int .u64 7507060721942968483))), (56, 1, (.k (.int .u64 8399075790359081724))), (57, 1, (.k (.int .u64 8693463985226723168))), (58, 1, (.k (.int .u64 9568029438360202098))), (59, 1, (.k (.int .u64 10144078919501101548))), (60, 1, (.k (.int .u64 10430055236837252648))), (61, 1, (.k (.int .u64 11840083180663258601))), (62, 1, (.k (.int .u64 13761210420658862357))), (63, 1, (.k (.int .u64 14299343276471374635))), (64, 1, (.k (.int .u64 14566680578165727644))), (65, 1, (.k (.int .u64 15097957966210449927))), (66, 1, (.k (.int .u64 16922976911328602910))), (67, 1, (.k (.int .u64 17689382322260857208))), (68, 1, (.k (.int .u64 500013540394364858))), (69, 1, (.k (.int .u64 748580250866718886))), (70, 1, (.k (.int .u64 1242879168328830382))), (71, 1, (.k (.int .u64 1977374033974150939))), (72, 1, (.k (.int .u64 2944078676154940804))), (73, 1, (.k (.int .u64 3659926193048069267))), (74, 1, (.k (.int .u64 4368137639120453308))), (75, 1, (.k (.int .u64 4836135668995329356))), (76, 1, (.k (.int .u64 5532061633213252278))), (77, 1, (.k (.int .u64 6448918945643986474))), (78, 1, (.k (.int .u64 6902733635092675308))), (79, 1, (.k (.int .u64 7801388544844847127)))]) [],
  (⟨⟨none, none, .store 80 (.t 0) (.t 1)⟩, 0, []⟩, [1])]
/-- bosun/longsum.rounds -/
@[reducible] def fGRounds : KCode := (.seq (.reg fGRounds_r0) (.seq (.reg fGRounds_r1) .ret))
@[reducible] def fGRounds_rs : List IRes := [.cell 0 (some 80)]
theorem fGRounds_low : lowFunc Try.prog 139 [] [] = some ⟨fGRounds.bare, fGRounds_rs, 2⟩ := by kernel_rfl

@[reducible] def fSum3_r0 : List (DOper × List Nat) := [
  o1 2 (.box 109 (.t 0)) [0],
  o1 4 (.mv (.k (.list 1 ⟨true, true, false⟩ []))) [4]]
@[reducible] def fSum3_r1 : List (DOper × List Nat) := [
  o1 27 (.fieldAddr 0 (.t 2)) [],
  o1 28 (.load none (.t 27)) [27],
  o1 29 (.bin false .quo (.t 28) (.k (.int .i64 8))) [28],
  o1 5 (.mv (.t 29)) [29]]
@[reducible] def fSum3_r2 : List (DOper × List Nat) := [
  o1 30 (.buildF 5 1 [] []) [],
  o1 31 (.mv (.t 1)) [],
  o1 32 (.appO 5 1 1 (.t 30) (.t 31)) [30, 31],
  o1 6 (.mv (.t 32)) [32]]
@[reducible] def fSum3_r3 : List (DOper × List Nat) := [
  o1 33 (.mv (.t 6)) [6],
  o1 34 (.buildF 5 1 [(.int .u8 0)] [(0, 1, (.k (.int .u8 128)))]) [],
  o1 35 (.appO 5 1 1 (.t 33) (.t 34)) [33, 34],
  o1 6 (.mv (.t 35)) [35]]
@[reducible] def fSum3_r4 : List (DOper × List Nat) := [
  o1 36 (.mv (.t 6)) [],
  o1 37 (.len true (.t 36)) [36],
  o1 38 (.mv (.t 5)) [],
  o1 39 (.bin false .mul (.k (.int .i64 16)) (.t 38)) [38],
  o1 40 (.bin false .rem (.t 37) (.t 39)) [37, 39],
  o1 41 (.mv (.t 5)) [],
  o1 42 (.bin false .mul (.k (.int .i64 14)) (.t 41)) [41],
  o1 43 (.bin false .neq (.t 40) (.t 42)) [40, 42]]
@[reducible] def fSum3_r5 : List (DOper × List Nat) := [
  o1 44 (.mv (.t 6)) [6],
  o1 45 (.buildF 5 1 [(.int .u8 0)] [(0, 1, (.k (.int .u8 0)))]) [],
  o1 46 (.appO 5 1 1 (.t 44) (.t 45)) [44, 45],
  o1 6 (.mv (.t 46)) [46]]
/-- live: [1, 2, 5, 6] -/
@[reducible] def fSum3_l0 : KCode := (.seq (.seq (.reg fSum3_r4) (.cond (.t 43) (.kill [43] .skip) (.kill [43] (.exit 0)))) (.keep [1, 2, 5, 6] (.block 1 (.reg fSum3_r5))))
@[reducible] def fSum3_r6 : List (DOper × List Nat) := [
  o1 7 (.mv (.k (.int .i64 0))) []]
@[reducible] def fSum3_r7 : List (DOper × List Nat) := [
  o1 47 (.mv (.t 7)) [],
  o1 48 (.mv (.t 5)) [],
  o1 49 (.bin false .mul (.k (.int .i64 2)) (.t 48)) [48],
  o1 50 (.bin false .lss (.t 47) (.t 49)) [47, 49]]
@[reducible] def fSum3_k1 : KCode := (.kill [1, 7, 50] (.exit 2))
@[reducible] def fSum3_r8 : List (DOper × List Nat) := [
  o1 53 (.mv (.t 5)) [],
  o1 54 (.bin false .mul (.k (.int .i64 2)) (.t 53)) [53],
  o1 55 (.bin false .sub (.t 54) (.k (.int .i64 1))) [54],
  o1 56 (.mv (.t 7)) [],
  o1 57 (.bin false .sub (.t 55) (.t 56)) [55, 56],
  o1 8 (.mv (.t 57)) [57]]
@[reducible] def fSum3_r9 : List (DOper × List Nat) := [
  o1 58 (.mv (.t 8)) [],
  o1 59 (.bin false .lss (.t 58) (.k (.int .i64 8))) [58]]
@[reducible] def fSum3_r10 : List (DOper × List Nat) := [
  o1 60 (.mv (.t 6)) [6],
  o1 61 (.mv (.t 1)) [],
  o1 62 (.len true (.t 61)) [61],
  o1 63 (.bin false .mul (.k (.int .i64 8)) (.t 62)) [62],
  o1 64 (.convI .u64 (.t 63)) [63],
  o1 65 (.mv (.t 8)) [8],
  o1 66 (.bin false .mul (.k (.int .i64 8)) (.t 65)) [65],
  o1 67 (.bin false .shr (.t 64) (.t 66)) [64, 66],
  o1 68 (.convI .u8 (.t 67)) [67],
  o1 69 (.buildF 5 1 [(.int .u8 0)] [(0, 1, (.t 68))]) [68],
  o1 70 (.appO 5 1 1 (.t 60) (.t 69)) [60, 69],
  o1 6 (.mv (.t 70)) [70]]
@[reducible] def fSum3_r11 : List (DOper × List Nat) := [
  o1 71 (.mv (.t 6)) [6],
  o1 72 (.buildF 5 1 [(.int .u8 0)] [(0, 1, (.k (.int .u8 0)))]) [],
  o1 73 (.appO 5 1 1 (.t 71) (.t 72)) [71, 72],
  o1 6 (.mv (.t 73)) [73]]
@[reducible] def fSum3_k2 : KCode := (.kill [59] (.reg fSum3_r10))
@[reducible] def fSum3_k3 : KCode := (.kill [8, 59] (.reg fSum3_r11))
@[reducible] def fSum3_r12 : List (DOper × List Nat) := [
  o1 51 (.mv (.t 7)) [7],
  o1 52 (.bin false .add (.t 51) (.k (.int .i64 1))) [51],
  o1 7 (.mv (.t 52)) [52]]
/-- live: [1, 2, 5, 6, 7] -/
@[reducible] def fSum3_l4 : KCode := (.seq (.seq (.reg fSum3_r7) (.cond (.t 50) (.kill [50] .skip) fSum3_k1)) (.kill [47, 48, 49, 50] (.seq (.block 3 (.seq (.reg fSum3_r8) (.seq (.reg fSum3_r9) (.cond (.t 59) fSum3_k2 fSum3_k3)))) (.keep [1, 2, 5, 6, 7] (.reg fSum3_r12)))))
@[reducible] def fSum3_r13 : List (DOper × List Nat) := [
  o1 9 (.mv (.k (.list 1 ⟨true, true, false⟩ []))) []]
@[reducible] def fSum3_r14 : List (DOper × List Nat) := [
  o1 10 (.mv (.k (.int .i64 0))) []]
@[reducible] def fSum3_r15 : List (DOper × List Nat) := [
  o1 74 (.mv (.t 10)) [],
  o1 75 (.bin false .lss (.t 74) (.k (.int .i64 8))) [74]]
@[reducible] def fSum3_k5 : KCode := (.kill [10, 75] (.exit 4))
@[reducible] def fSum3_r16 : List (DOper × List Nat) := [
  o1 78 (.mv (.t 9)) [9],
  o2 79 1 (.load (some 14) (.t 2)) [],
  (⟨⟨(some 80), none, .call 103 []⟩, 2, [1]⟩, []),
  o2 81 3 (.mv (.t 10)) [],
  o2 82 4 (.idxS 1 (.t 80) (.t 81)) [80, 81],
  o2 83 5 (.load none (.t 82)) [82],
  o2 84 6 (.call 102 [(.t 79), (.t 83)]) [79, 83],
  o2 85 7 (.buildF 47 1 [(.int .u64 0)] [(0, 1, (.t 84))]) [84],
  o2 86 8 (.appO 47 1 8 (.t 78) (.t 85)) [78, 85],
  o2 9 9 (.mv (.t 86)) [86]]
@[reducible] def fSum3_r17 : List (DOper × List Nat) := [
  o1 76 (.mv (.t 10)) [10],
  o1 77 (.bin false .add (.t 76) (.k (.int .i64 1))) [76],
  o1 10 (.mv (.t 77)) [77]]
/-- live: [2, 5, 6, 9, 10] -/
@[reducible] def fSum3_l6 : KCode := (.seq (.seq (.reg fSum3_r15) (.cond (.t 75) (.kill [75] .skip) fSum3_k5)) (.kill [74, 75] (.seq (.block 5 (.draw fSum3_r16)) (.keep [2, 5, 6, 9, 10] (.reg fSum3_r17)))))
@[reducible] def fSum3_r18 : List (DOper × List Nat) := [
  o1 87 (.call 104 []) [],
  o1 11 (.mv (.t 87)) [87]]
@[reducible] def fSum3_r19 : List (DOper × List Nat) := [
  o1 12 (.mv (.k (.int .i64 0))) []]
@[reducible] def fSum3_r20 : List (DOper × List Nat) := [
  o1 88 (.mv (.t 12)) [],
  o1 89 (.mv (.t 6)) [],
  o1 90 (.len true (.t 89)) [89],
  o1 91 (.bin false .lss (.t 88) (.t 90)) [88, 90]]
@[reducible] def fSum3_k7 : KCode := (.keep [5, 9] (.exit 6))
@[reducible] def fSum3_r21 : List (DOper × List Nat) := [
  o1 13 (.mv (.k (.list 1 ⟨true, true, false⟩ []))) []]
@[reducible] def fSum3_r22 : List (DOper × List Nat) := [
  o1 14 (.mv (.k (.int .i64 0))) []]
@[reducible] def fSum3_r23 : List (DOper × List Nat) := [
  o1 96 (.mv (.t 14)) [],
  o1 97 (.fieldAddr 1 (.t 2)) [],
  o1 98 (.load none (.t 97)) [97],
  o1 99 (.bin false .lss (.t 96) (.t 98)) [96, 98]]
@[reducible] def fSum3_k8 : KCode := (.kill [14, 99] (.exit 8))
@[reducible] def fSum3_r24 : List (DOper × List Nat) := [
  o1 15 (.mv (.k (.int .u64 0))) []]
@[reducible] def fSum3_r25 : List (DOper × List Nat) := [
  o1 102 (.mv (.t 14)) [],
  o1 103 (.bin false .lss (.t 102) (.k (.int .i64 16))) [102]]
@[reducible] def fSum3_r26 : List (DOper × List Nat) := [
  o1 16 (.mv (.k (.int .i64 0))) []]
@[reducible] def fSum3_r27 : List (DOper × List Nat) := [
  o1 104 (.mv (.t 16)) [],
  o1 105 (.mv (.t 5)) [],
  o1 106 (.bin false .lss (.t 104) (.t 105)) [104, 105]]
@[reducible] def fSum3_k9 : KCode := (.kill [16, 106] (.exit 10))
@[reducible] def fSum3_r28 : List (DOper × List Nat) := [
  o1 109 (.mv (.t 15)) [15],
  o1 110 (.bin false .mul (.t 109) (.k (.int .u64 256))) [109],
  o1 111 (.mv (.t 6)) [],
  o1 112 (.mv (.t 12)) [],
  o1 113 (.mv (.t 14)) [],
  o1 114 (.mv (.t 5)) [],
  o1 115 (.bin false .mul (.t 113) (.t 114)) [113, 114],
  o1 116 (.bin false .add (.t 112) (.t 115)) [112, 115],
  o1 117 (.mv (.t 16)) [],
  o1 118 (.bin false .add (.t 116) (.t 117)) [116, 117],
  o1 119 (.idxS 1 (.t 111) (.t 118)) [111, 118],
  o1 120 (.load none (.t 119)) [119],
  o1 121 (.convI .u64 (.t 120)) [120],
  o1 122 (.bin false .add (.t 110) (.t 121)) [110, 121],
  o1 15 (.mv (.t 122)) [122]]
@[reducible] def fSum3_r29 : List (DOper × List Nat) := [
  o1 107 (.mv (.t 16)) [16],
  o1 108 (.bin false .add (.t 107) (.k (.int .i64 1))) [107],
  o1 16 (.mv (.t 108)) [108]]
/-- live: [2, 5, 6, 9, 11, 12, 13, 14, 15, 16] -/
@[reducible] def fSum3_l10 : KCode := (.seq (.seq (.reg fSum3_r27) (.cond (.t 106) (.kill [106] .skip) fSum3_k9)) (.kill [104, 105, 106] (.seq (.block 11 (.reg fSum3_r28)) (.keep [2, 5, 6, 9, 11, 12, 13, 14, 15, 16] (.reg fSum3_r29)))))
@[reducible] def fSum3_r30 : List (DOper × List Nat) := [
  o1 123 (.mv (.t 13)) [],
  o2 124 1 (.mv (.t 14)) [],
  o2 125 2 (.bin false .sub (.t 124) (.k (.int .i64 16))) [124],
  o2 126 3 (.idxS 1 (.t 123) (.t 125)) [123, 125],
  o2 127 4 (.load none (.t 126)) [126],
  o2 128 5 (.load (some 14) (.t 2)) [],
  o2 129 6 (.mv (.t 13)) [],
  o2 130 7 (.mv (.t 14)) [],
  o2 131 8 (.bin false .sub (.t 130) (.k (.int .i64 15))) [130],
  o2 132 9 (.idxS 1 (.t 129) (.t 131)) [129, 131],
  o2 133 10 (.load none (.t 132)) [132],
  o2 134 11 (.fieldAddr 8 (.t 2)) [],
  o2 135 12 (.load (some 3) (.t 134)) [134],
  o2 138 15 (.mv (.t 13)) [],
  o2 139 16 (.mv (.t 14)) [],
  o2 140 17 (.bin false .sub (.t 139) (.k (.int .i64 7))) [139],
  o2 141 18 (.idxS 1 (.t 138) (.t 140)) [138, 140],
  o2 142 19 (.load none (.t 141)) [141],
  o2 144 21 (.load (some 14) (.t 2)) [],
  o2 145 22 (.mv (.t 13)) [],
  o2 146 23 (.mv (.t 14)) [],
  o2 147 24 (.bin false .sub (.t 146) (.k (.int .i64 2))) [146],
  o2 148 25 (.idxS 1 (.t 145) (.t 147)) [145, 147],
  o2 149 26 (.load none (.t 148)) [148],
  o2 150 27 (.fieldAddr 11 (.t 2)) [],
  o2 151 28 (.load (some 3) (.t 150)) [150],
  (⟨⟨(some 136), none, .call 105 [(.t 128), (.t 133), (.t 135)]⟩, 13, [28, 26, 21, 19, 4]⟩, [128, 133, 135]),
  o2 137 14 (.bin false .add (.t 127) (.t 136)) [127, 136],
  o2 143 20 (.bin false .add (.t 137) (.t 142)) [137, 142],
  (⟨⟨(some 152), none, .call 105 [(.t 144), (.t 149), (.t 151)]⟩, 29, [19, 4]⟩, [144, 149, 151]),
  o2 153 30 (.bin false .add (.t 143) (.t 152)) [143, 152],
  o2 15 31 (.mv (.t 153)) [153]]
@[reducible] def fSum3_k11 : KCode := (.kill [103] (.seq (.reg fSum3_r26) (.block 10 (.loop fSum3_l10))))
@[reducible] def fSum3_k12 : KCode := (.kill [15, 103] (.draw fSum3_r30))
@[reducible] def fSum3_r31 : List (DOper × List Nat) := [
  o1 154 (.mv (.t 13)) [13],
  o1 155 (.load (some 14) (.t 2)) [],
  o1 156 (.mv (.t 15)) [15],
  o1 157 (.call 106 [(.t 155), (.t 156)]) [155, 156],
  o1 158 (.buildF 47 1 [(.int .u64 0)] [(0, 1, (.t 157))]) [157],
  o1 159 (.appO 47 1 8 (.t 154) (.t 158)) [154, 158],
  o1 13 (.mv (.t 159)) [159]]
@[reducible] def fSum3_r32 : List (DOper × List Nat) := [
  o1 100 (.mv (.t 14)) [14],
  o1 101 (.bin false .add (.t 100) (.k (.int .i64 1))) [100],
  o1 14 (.mv (.t 101)) [101]]
/-- live: [2, 5, 6, 9, 11, 12, 13, 14] -/
@[reducible] def fSum3_l13 : KCode := (.seq (.seq (.reg fSum3_r23) (.cond (.t 99) (.kill [99] .skip) fSum3_k8)) (.kill [96, 97, 98, 99] (.seq (.block 9 (.seq (.reg fSum3_r24) (.seq (.seq (.reg fSum3_r25) (.cond (.t 103) fSum3_k11 fSum3_k12)) (.keep [2, 5, 6, 9, 11, 12, 13, 14, 15] (.reg fSum3_r31))))) (.keep [2, 5, 6, 9, 11, 12, 13, 14] (.reg fSum3_r32)))))
@[reducible] def fSum3_r33 : List (DOper × List Nat) := [
  o1 160 (.buildF 47 1 [] []) [],
  o1 161 (.mv (.t 9)) [],
  o1 162 (.appO 47 1 8 (.t 160) (.t 161)) [160, 161],
  o1 17 (.mv (.t 162)) [162]]
@[reducible] def fSum3_r34 : List (DOper × List Nat) := [
  o1 18 (.mv (.k (.int .i64 0))) []]
@[reducible] def fSum3_r35 : List (DOper × List Nat) := [
  o1 163 (.mv (.t 18)) [],
  o1 164 (.fieldAddr 1 (.t 2)) [],
  o1 165 (.load none (.t 164)) [164],
  o1 166 (.bin false .lss (.t 163) (.t 165)) [163, 165]]
@[reducible] def fSum3_k14 : KCode := (.kill [13, 18, 166] (.exit 12))
@[reducible] def fSum3_r36 : List (DOper × List Nat) := [
  o1 169 (.mv (.t 17)) [],
  o2 170 1 (.idxS 1 (.t 169) (.k (.int .i64 4))) [169],
  o2 171 2 (.load none (.t 170)) [170],
  o2 172 3 (.mv (.t 17)) [],
  o2 173 4 (.idxS 1 (.t 172) (.k (.int .i64 5))) [172],
  o2 174 5 (.load none (.t 173)) [173],
  o2 175 6 (.bin false .and (.t 171) (.t 174)) [171, 174],
  o2 176 7 (.load (some 14) (.t 2)) [],
  o2 177 8 (.mv (.t 17)) [],
  o2 178 9 (.idxS 1 (.t 177) (.k (.int .i64 4))) [177],
  o2 179 10 (.load none (.t 178)) [178],
  o2 180 11 (.un .xor (.t 179)) [179],
  o2 182 13 (.mv (.t 17)) [],
  o2 183 14 (.idxS 1 (.t 182) (.k (.int .i64 6))) [182],
  o2 184 15 (.load none (.t 183)) [183],
  (⟨⟨(some 181), none, .call 106 [(.t 176), (.t 180)]⟩, 12, [15, 5, 2]⟩, [176, 180]),
  o2 185 16 (.bin false .and (.t 181) (.t 184)) [181, 184],
  o2 186 17 (.bin false .or (.t 175) (.t 185)) [175, 185],
  o2 19 18 (.mv (.t 186)) [186]]
@[reducible] def fSum3_r37 : List (DOper × List Nat) := [
  o1 187 (.mv (.t 17)) [],
  o2 188 1 (.idxS 1 (.t 187) (.k (.int .i64 0))) [187],
  o2 189 2 (.load none (.t 188)) [188],
  o2 190 3 (.mv (.t 17)) [],
  o2 191 4 (.idxS 1 (.t 190) (.k (.int .i64 1))) [190],
  o2 192 5 (.load none (.t 191)) [191],
  o2 193 6 (.bin false .and (.t 189) (.t 192)) [189, 192],
  o2 194 7 (.mv (.t 17)) [],
  o2 195 8 (.idxS 1 (.t 194) (.k (.int .i64 0))) [194],
  o2 196 9 (.load none (.t 195)) [195],
  o2 197 10 (.mv (.t 17)) [],
  o2 198 11 (.idxS 1 (.t 197) (.k (.int .i64 2))) [197],
  o2 199 12 (.load none (.t 198)) [198],
  o2 200 13 (.bin false .and (.t 196) (.t 199)) [196, 199],
  o2 201 14 (.bin false .or (.t 193) (.t 200)) [193, 200],
  o2 202 15 (.mv (.t 17)) [],
  o2 203 16 (.idxS 1 (.t 202) (.k (.int .i64 1))) [202],
  o2 204 17 (.load none (.t 203)) [203],
  o2 205 18 (.mv (.t 17)) [],
  o2 206 19 (.idxS 1 (.t 205) (.k (.int .i64 2))) [205],
  o2 207 20 (.load none (.t 206)) [206],
  o2 208 21 (.bin false .and (.t 204) (.t 207)) [204, 207],
  o2 209 22 (.bin false .or (.t 201) (.t 208)) [201, 208],
  o2 20 23 (.mv (.t 209)) [209]]
@[reducible] def fSum3_r38 : List (DOper × List Nat) := [
  o1 210 (.mv (.t 17)) [],
  o2 211 1 (.idxS 1 (.t 210) (.k (.int .i64 7))) [210],
  o2 212 2 (.load none (.t 211)) [211],
  o2 213 3 (.load (some 14) (.t 2)) [],
  o2 214 4 (.mv (.t 17)) [],
  o2 215 5 (.idxS 1 (.t 214) (.k (.int .i64 4))) [214],
  o2 216 6 (.load none (.t 215)) [215],
  o2 217 7 (.fieldAddr 5 (.t 2)) [],
  o2 218 8 (.load (some 3) (.t 217)) [217],
  o2 221 11 (.mv (.t 19)) [19],
  o2 223 13 (.load (some 14) (.t 2)) [],
  o2 224 14 (.mv (.t 11)) [],
  o2 225 15 (.mv (.t 18)) [],
  o2 226 16 (.idxS 1 (.t 224) (.t 225)) [224, 225],
  o2 227 17 (.load none (.t 226)) [226],
  o2 230 20 (.mv (.t 13)) [],
  o2 231 21 (.mv (.t 18)) [],
  o2 232 22 (.idxS 1 (.t 230) (.t 231)) [230, 231],
  o2 233 23 (.load none (.t 232)) [232],
  (⟨⟨(some 219), none, .call 107 [(.t 213), (.t 216), (.t 218)]⟩, 9, [23, 17, 13, 2]⟩, [213, 216, 218]),
  o2 220 10 (.bin false .add (.t 212) (.t 219)) [212, 219],
  o2 222 12 (.bin false .add (.t 220) (.t 221)) [220, 221],
  (⟨⟨(some 228), none, .call 102 [(.t 223), (.t 227)]⟩, 18, [23, 2]⟩, [223, 227]),
  o2 229 19 (.bin false .add (.t 222) (.t 228)) [222, 228],
  o2 234 24 (.bin false .add (.t 229) (.t 233)) [229, 233],
  o2 21 25 (.mv (.t 234)) [234]]
@[reducible] def fSum3_r39 : List (DOper × List Nat) := [
  o1 235 (.load (some 14) (.t 2)) [],
  o2 236 1 (.mv (.t 17)) [],
  o2 237 2 (.idxS 1 (.t 236) (.k (.int .i64 0))) [236],
  o2 238 3 (.load none (.t 237)) [237],
  o2 239 4 (.fieldAddr 2 (.t 2)) [],
  o2 240 5 (.load (some 3) (.t 239)) [239],
  o2 241 6 (.call 107 [(.t 235), (.t 238), (.t 240)]) [235, 238, 240],
  o2 242 7 (.mv (.t 20)) [20],
  o2 243 8 (.bin false .add (.t 241) (.t 242)) [241, 242],
  o2 22 9 (.mv (.t 243)) [243]]
@[reducible] def fSum3_r40 : List (DOper × List Nat) := [
  o1 244 (.load (some 14) (.t 2)) [],
  o2 245 1 (.mv (.t 21)) [],
  o2 246 2 (.mv (.t 22)) [22],
  o2 247 3 (.bin false .add (.t 245) (.t 246)) [245, 246],
  o2 249 5 (.mv (.t 17)) [],
  o2 250 6 (.idxS 1 (.t 249) (.k (.int .i64 0))) [249],
  o2 251 7 (.load none (.t 250)) [250],
  o2 252 8 (.mv (.t 17)) [],
  o2 253 9 (.idxS 1 (.t 252) (.k (.int .i64 1))) [252],
  o2 254 10 (.load none (.t 253)) [253],
  o2 255 11 (.mv (.t 17)) [],
  o2 256 12 (.idxS 1 (.t 255) (.k (.int .i64 2))) [255],
  o2 257 13 (.load none (.t 256)) [256],
  o2 258 14 (.load (some 14) (.t 2)) [],
  o2 259 15 (.mv (.t 17)) [],
  o2 260 16 (.idxS 1 (.t 259) (.k (.int .i64 3))) [259],
  o2 261 17 (.load none (.t 260)) [260],
  o2 262 18 (.mv (.t 21)) [21],
  o2 263 19 (.bin false .add (.t 261) (.t 262)) [261, 262],
  o2 265 21 (.mv (.t 17)) [],
  o2 266 22 (.idxS 1 (.t 265) (.k (.int .i64 4))) [265],
  o2 267 23 (.load none (.t 266)) [266],
  o2 268 24 (.mv (.t 17)) [],
  o2 269 25 (.idxS 1 (.t 268) (.k (.int .i64 5))) [268],
  o2 270 26 (.load none (.t 269)) [269],
  o2 271 27 (.mv (.t 17)) [17],
  o2 272 28 (.idxS 1 (.t 271) (.k (.int .i64 6))) [271],
  o2 273 29 (.load none (.t 272)) [272],
  (⟨⟨(some 248), none, .call 106 [(.t 244), (.t 247)]⟩, 4, [29, 26, 23, 17, 14, 13, 10, 7]⟩, [244, 247]),
  (⟨⟨(some 264), none, .call 106 [(.t 258), (.t 263)]⟩, 20, [29, 26, 23, 13, 10, 7]⟩, [258, 263]),
  o2 274 30 (.buildF 47 1 [(.int .u64 0), (.int .u64 0), (.int .u64 0), (.int .u64 0), (.int .u64 0), (.int .u64 0), (.int .u64 0), (.int .u64 0)] [(0, 1, (.t 248)), (1, 1, (.t 251)), (2, 1, (.t 254)), (3, 1, (.t 257)), (4, 1, (.t 264)), (5, 1, (.t 267)), (6, 1, (.t 270)), (7, 1, (.t 273))]) [248, 251, 254, 257, 264, 267, 270, 273],
  o2 17 31 (.mv (.t 274)) [274]]
@[reducible] def fSum3_r41 : List (DOper × List Nat) := [
  o1 167 (.mv (.t 18)) [18],
  o1 168 (.bin false .add (.t 167) (.k (.int .i64 1))) [167],
  o1 18 (.mv (.t 168)) [168]]
/-- live: [2, 5, 6, 9, 11, 12, 13, 17, 18] -/
@[reducible] def fSum3_l15 : KCode := (.seq (.seq (.reg fSum3_r35) (.cond (.t 166) (.kill [166] .skip) fSum3_k14)) (.kill [163, 164, 165, 166] (.seq (.block 13 (.seq (.draw fSum3_r36) (.seq (.draw fSum3_r37) (.seq (.draw fSum3_r38) (.seq (.draw fSum3_r39) (.draw fSum3_r40)))))) (.keep [2, 5, 6, 9, 11, 12, 13, 17, 18] (.reg fSum3_r41)))))
@[reducible] def fSum3_r42 : List (DOper × List Nat) := [
  o1 23 (.mv (.k (.int .i64 0))) []]
@[reducible] def fSum3_r43 : List (DOper × List Nat) := [
  o1 275 (.mv (.t 23)) [],
  o1 276 (.bin false .lss (.t 275) (.k (.int .i64 8))) [275]]
@[reducible] def fSum3_k16 : KCode := (.kill [17, 23, 276] (.exit 14))
@[reducible] def fSum3_r44 : List (DOper × List Nat) := [
  o1 279 (.mv (.t 9)) [],
  o2 280 1 (.mv (.t 23)) [],
  o2 281 2 (.load (some 14) (.t 2)) [],
  o2 282 3 (.mv (.t 9)) [],
  o2 283 4 (.mv (.t 23)) [],
  o2 284 5 (.idxS 1 (.t 282) (.t 283)) [282, 283],
  o2 285 6 (.load none (.t 284)) [284],
  o2 286 7 (.mv (.t 17)) [],
  o2 287 8 (.mv (.t 23)) [],
  o2 288 9 (.idxS 1 (.t 286) (.t 287)) [286, 287],
  o2 289 10 (.load none (.t 288)) [288],
  o2 290 11 (.bin false .add (.t 285) (.t 289)) [285, 289],
  o2 291 12 (.call 106 [(.t 281), (.t 290)]) [281, 290],
  o2 292 13 (.idxS 1 (.t 279) (.t 280)) [279, 280],
  (⟨⟨none, none, .store 1 (.t 292) (.t 291)⟩, 14, []⟩, [291, 292])]
@[reducible] def fSum3_r45 : List (DOper × List Nat) := [
  o1 277 (.mv (.t 23)) [23],
  o1 278 (.bin false .add (.t 277) (.k (.int .i64 1))) [277],
  o1 23 (.mv (.t 278)) [278]]
/-- live: [2, 5, 6, 9, 11, 12, 17, 23] -/
@[reducible] def fSum3_l17 : KCode := (.seq (.seq (.reg fSum3_r43) (.cond (.t 276) (.kill [276] .skip) fSum3_k16)) (.kill [275, 276] (.seq (.block 15 (.draw fSum3_r44)) (.keep [2, 5, 6, 9, 11, 12, 17, 23] (.reg fSum3_r45)))))
@[reducible] def fSum3_r46 : List (DOper × List Nat) := [
  o1 92 (.mv (.t 12)) [12],
  o1 93 (.mv (.t 5)) [],
  o1 94 (.bin false .mul (.k (.int .i64 16)) (.t 93)) [93],
  o1 95 (.bin false .add (.t 92) (.t 94)) [92, 94],
  o1 12 (.mv (.t 95)) [95]]
/-- live: [2, 5, 6, 9, 11, 12] -/
@[reducible] def fSum3_l18 : KCode := (.seq (.seq (.reg fSum3_r20) (.cond (.t 91) (.kill [91] .skip) fSum3_k7)) (.kill [88, 89, 90, 91] (.seq (.block 7 (.seq (.reg fSum3_r21) (.seq (.seq (.reg fSum3_r22) (.block 8 (.loop fSum3_l13))) (.keep [2, 5, 6, 9, 11, 12, 13] (.seq (.reg fSum3_r33) (.seq (.seq (.reg fSum3_r34) (.block 12 (.loop fSum3_l15))) (.keep [2, 5, 6, 9, 11, 12, 17] (.seq (.reg fSum3_r42) (.block 14 (.loop fSum3_l17)))))))))) (.keep [2, 5, 6, 9, 11, 12] (.reg fSum3_r46)))))
@[reducible] def fSum3_r47 : List (DOper × List Nat) := [
  o1 24 (.mv (.k (.list 1 ⟨true, true, false⟩ []))) []]
@[reducible] def fSum3_r48 : List (DOper × List Nat) := [
  o1 25 (.mv (.k (.int .i64 0))) []]
@[reducible] def fSum3_r49 : List (DOper × List Nat) := [
  o1 293 (.mv (.t 25)) [],
  o1 294 (.bin false .lss (.t 293) (.k (.int .i64 8))) [293]]
@[reducible] def fSum3_r50 : List (DOper × List Nat) := [
  o1 297 (.mv (.t 5)) [],
  o1 298 (.bin false .sub (.t 297) (.k (.int .i64 1))) [297],
  o1 26 (.mv (.t 298)) [298]]
@[reducible] def fSum3_r51 : List (DOper × List Nat) := [
  o1 299 (.mv (.t 26)) [],
  o1 300 (.bin false .geq (.t 299) (.k (.int .i64 0))) [299]]
@[reducible] def fSum3_k19 : KCode := (.kill [26, 300] (.exit 18))
@[reducible] def fSum3_r52 : List (DOper × List Nat) := [
  o1 303 (.mv (.t 24)) [24],
  o1 304 (.mv (.t 9)) [],
  o1 305 (.mv (.t 25)) [],
  o1 306 (.idxS 1 (.t 304) (.t 305)) [304, 305],
  o1 307 (.load none (.t 306)) [306],
  o1 308 (.mv (.t 26)) [],
  o1 309 (.bin false .mul (.k (.int .i64 8)) (.t 308)) [308],
  o1 310 (.bin false .shr (.t 307) (.t 309)) [307, 309],
  o1 311 (.convI .u8 (.t 310)) [310],
  o1 312 (.buildF 5 1 [(.int .u8 0)] [(0, 1, (.t 311))]) [311],
  o1 313 (.appO 5 1 1 (.t 303) (.t 312)) [303, 312],
  o1 24 (.mv (.t 313)) [313]]
@[reducible] def fSum3_r53 : List (DOper × List Nat) := [
  o1 301 (.mv (.t 26)) [26],
  o1 302 (.bin false .sub (.t 301) (.k (.int .i64 1))) [301],
  o1 26 (.mv (.t 302)) [302]]
/-- live: [5, 9, 24, 25, 26] -/
@[reducible] def fSum3_l20 : KCode := (.seq (.seq (.reg fSum3_r51) (.cond (.t 300) (.kill [300] .skip) fSum3_k19)) (.kill [299, 300] (.seq (.block 19 (.reg fSum3_r52)) (.keep [5, 9, 24, 25, 26] (.reg fSum3_r53)))))
@[reducible] def fSum3_r54 : List (DOper × List Nat) := [
  o1 295 (.mv (.t 25)) [25],
  o1 296 (.bin false .add (.t 295) (.k (.int .i64 1))) [295],
  o1 25 (.mv (.t 296)) [296]]
/-- live: [5, 9, 24, 25] -/
@[reducible] def fSum3_l21 : KCode := (.seq (.seq (.reg fSum3_r49) (.cond (.t 294) (.kill [294] .skip) (.keep [24] (.exit 16)))) (.kill [293, 294] (.seq (.block 17 (.seq (.reg fSum3_r50) (.block 18 (.loop fSum3_l20)))) (.keep [5, 9, 24, 25] (.reg fSum3_r54)))))
@[reducible] def fSum3_r55 : List (DOper × List Nat) := [
  o1 314 (.mv (.t 24)) [24],
  o1 4 (.mv (.t 314)) [314]]
/-- bosun/bosunref03.Sum -/
@[reducible] def fSum3 : KCode := (.seq (.reg fSum3_r0) (.seq (.reg fSum3_r1) (.seq (.reg fSum3_r2) (.seq (.reg fSum3_r3) (.seq (.block 0 (.loop fSum3_l0)) (.keep [1, 2, 5, 6] (.seq (.seq (.reg fSum3_r6) (.block 2 (.loop fSum3_l4))) (.keep [2, 5, 6] (.seq (.reg fSum3_r13) (.seq (.seq (.reg fSum3_r14) (.block 4 (.loop fSum3_l6))) (.keep [2, 5, 6, 9] (.seq (.reg fSum3_r18) (.seq (.seq (.reg fSum3_r19) (.block 6 (.loop fSum3_l18))) (.keep [5, 9] (.seq (.reg fSum3_r47) (.seq (.seq (.reg fSum3_r48) (.block 16 (.loop fSum3_l21))) (.keep [24] (.seq (.reg fSum3_r55) .ret))))))))))))))))))
@[reducible] def fSum3_rs : List IRes := [.tmp 4]
theorem fSum3_low : lowFunc Try.prog 58 [] [(32, [0, 1, 2, 3, 4, 5, 6, 7, 8, 9, 10, 11, 12, 15, 16, 17, 18, 19, 21, 22, 23, 24, 25, 26, 27, 28, 13, 14, 20, 29, 30, 31]), (38, [0, 1, 2, 3, 4, 5, 6, 7, 8, 9, 10, 11, 13, 14, 15, 12, 16, 17, 18]), (40, [0, 1, 2, 3, 4, 5, 6, 7, 8, 11, 13, 14, 15, 16, 17, 20, 21, 22, 23, 9, 10, 12, 18, 19, 24, 25]), (42, [0, 1, 2, 3, 5, 6, 7, 8, 9, 10, 11, 12, 13, 14, 15, 16, 17, 18, 19, 21, 22, 23, 24, 25, 26, 27, 28, 29, 4, 20, 30, 31])] = some ⟨fSum3.bare, fSum3_rs, 315⟩ := by kernel_rfl

@[reducible] def fLong_r0 : List (DOper × List Nat) := [
  o1 0 (.alloc 109 [(.int .i64 0), (.int .i64 0), (.int .i64 0), (.int .i64 0), (.int .i64 0), (.int .i64 0), (.int .i64 0), (.int .i64 0), (.int .i64 0), (.int .i64 0), (.int .i64 0), (.int .i64 0), (.int .i64 0), (.int .i64 0)]) []]
@[reducible] def fLong_r1 : List (DOper × List Nat) := [
  o1 1 (.build [(.int .i64 0), (.int .i64 0), (.int .i64 0)] [(0, 1, (.k (.int .i64 28))), (1, 1, (.k (.int .i64 34))), (2, 1, (.k (.int .i64 39)))]) [],
  o1 2 (.build [(.int .i64 0), (.int .i64 0), (.int .i64 0)] [(0, 1, (.k (.int .i64 14))), (1, 1, (.k (.int .i64 18))), (2, 1, (.k (.int .i64 41)))]) [],
  o1 3 (.build [(.int .i64 0), (.int .i64 0), (.int .i64 0)] [(0, 1, (.k (.int .i64 1))), (1, 1, (.k (.int .i64 8))), (2, 1, (.k (.int .i64 7)))]) [],
  o1 4 (.build [(.int .i64 0), (.int .i64 0), (.int .i64 0)] [(0, 1, (.k (.int .i64 19))), (1, 1, (.k (.int .i64 61))), (2, 1, (.k (.int .i64 6)))]) [],
  o1 5 (.build [(.int .i64 0), (.int .i64 0), (.int .i64 0), (.int .i64 0), (.int .i64 0), (.int .i64 0), (.int .i64 0), (.int .i64 0), (.int .i64 0), (.int .i64 0), (.int .i64 0), (.int .i64 0), (.int .i64 0), (.int .i64 0)] [(0, 1, (.k (.int .i64 64))), (1, 1, (.k (.int .i64 80))), (2, 3, (.t 1)), (5, 3, (.t 2)), (8, 3, (.t 3)), (11, 3, (.t 4))]) [1, 2, 3, 4],
  (⟨⟨none, none, .store 14 (.t 0) (.t 5)⟩, 0, []⟩, [5])]
/-- bosun/bosunref03.Long -/
@[reducible] def fLong : KCode := (.seq (.reg fLong_r0) (.seq (.reg fLong_r1) .ret))
@[reducible] def fLong_rs : List IRes := [.cell 0 (some 14)]
theorem fLong_low : lowFunc Try.prog 123 [] [] = some ⟨fLong.bare, fLong_rs, 6⟩ := by kernel_rfl

@[reducible] def fConst3_r0 : List (DOper × List Nat) := [
  o1 2 (.box 109 (.t 0)) [0],
  o1 4 (.mv (.k (.int .u64 0))) [4]]
@[reducible] def fConst3_r1 : List (DOper × List Nat) := [
  o1 5 (.mv (.t 1)) [1],
  o1 6 (.fieldAddr 0 (.t 2)) [2],
  o1 7 (.load none (.t 6)) [6],
  o1 8 (.bin false .sub (.k (.int .i64 64)) (.t 7)) [7],
  o1 9 (.bin false .shr (.t 5) (.t 8)) [5, 8],
  o1 4 (.mv (.t 9)) [9]]
/-- (bosun/bosunref03.Form).constant -/
@[reducible] def fConst3 : KCode := (.seq (.reg fConst3_r0) (.seq (.reg fConst3_r1) .ret))
@[reducible] def fConst3_rs : List IRes := [.tmp 4]
theorem fConst3_low : lowFunc Try.prog 102 [] [] = some ⟨fConst3.bare, fConst3_rs, 10⟩ := by kernel_rfl

@[reducible] def fStart_r0 : List (DOper × List Nat) := [
  o1 0 (.mv (.k (.list 1 ⟨true, true, false⟩ []))) [0]]
@[reducible] def fStart_r1 : List (DOper × List Nat) := [
  o1 1 (.buildF 47 1 [(.int .u64 0), (.int .u64 0), (.int .u64 0), (.int .u64 0), (.int .u64 0), (.int .u64 0), (.int .u64 0), (.int .u64 0)] [(0, 1, (.k (.int .u64 7640891576956012808))), (1, 1, (.k (.int .u64 13503953896175478587))), (2, 1, (.k (.int .u64 4354685564936845355))), (3, 1, (.k (.int .u64 11912009170470909681))), (4, 1, (.k (.int .u64 5840696475078001361))), (5, 1, (.k (.int .u64 11170449401992604703))), (6, 1, (.k (.int .u64 2270897969802886507))), (7, 1, (.k (.int .u64 6620516959819538809)))]) [],
  o1 0 (.mv (.t 1)) [1]]
/-- bosun/bosunref03.Start -/
@[reducible] def fStart : KCode := (.seq (.reg fStart_r0) (.seq (.reg fStart_r1) .ret))
@[reducible] def fStart_rs : List IRes := [.tmp 0]
theorem fStart_low : lowFunc Try.prog 103 [] [] = some ⟨fStart.bare, fStart_rs, 2⟩ := by kernel_rfl

@[reducible] def fWords_r0 : List (DOper × List Nat) := [
  o1 0 (.mv (.k (.list 1 ⟨true, true, false⟩ []))) [0]]
@[reducible] def fWords_r1 : List (DOper × List Nat) := [
  o1 1 (.buildF 47 1 [(.int .u64 0), (.int .u64 0), (.int .u64 0), (.int .u64 0), (.int .u64 0), (.int .u64 0), (.int .u64 0), (.int .u64 0), (.int .u64 0), (.int .u64 0), (.int .u64 0), (.int .u64 0), (.int .u64 0), (.int .u64 0), (.int .u64 0), (.int .u64 0), (.int .u64 0), (.int .u64 0), (.int .u64 0), (.int .u64 0), (.int .u64 0), (.int .u64 0), (.int .u64 0), (.int .u64 0), (.int .u64 0), (.int .u64 0), (.int .u64 0), (.int .u64 0), (.int .u64 0), (.int .u64 0), (.int .u64 0), (.int .u64 0), (.int .u64 0), (.int .u64 0), (.int .u64 0), (.int .u64 0), (.int .u64 0), (.int .u64 0), (.int .u64 0), (.int .u64 0), (.int .u64 0), (.int .u64 0), (.int .u64 0), (.int .u64 0), (.int .u64 0), (.int .u64 0), (.int .u64 0), (.int .u64 0), (.int .u64 0), (.int .u64 0), (.int .u64 0), (.int .u64 0), (.int .u64 0), (.int .u64 0), (.int .u64 0), (.int .u64 0), (.int .u64 0), (.int .u64 0), (.int .u64 0), (.int .u64 0), (.int .u64 0), (.int .u64 0), (.int .u64 0), (.int .u64 0), (.int .u64 0), (.int .u64 0), (.int .u64 0), (.int .u64 0), (.int .u64 0), (.int .u64 0), (.int .u64 0), (.int .u64 0), (.int .u64 0), (.int .u64 0), (.int .u64 0), (.int .u64 0), (.int .u64 0), (.int .u64 0), (.int .u64 0), (.int .u64 0)] [(0, 1, (.k (.int .u64 4794697086780616226))), (1, 1, (.k (.int .u64 8158064640168781261))), (2, 1, (.k (.int .u64 13096744586834688815))), (3, 1, (.k (.int .u64 16840607885511220156))), (4, 1, (.k (.int .u64 4131703408338449720))), (5, 1, (.k (.int .u64 6480981068601479193))), (6, 1, (.k (.int .u64 10538285296894168987))), (7, 1, (.k (.int .u64 12329834152419229976))), (8, 1, (.k (.int .u64 15566598209576043074))), (9, 1, (.k (.int .u64 1334009975649890238))), (10, 1, (.k (.int .u64 2608012711638119052))), (11, 1, (.k (.int .u64 6128411473006802146))), (12, 1, (.k (.int .u64 8268148722764581231))), (13, 1, (.k (.int .u64 9286055187155687089))), (14, 1, (.k (.int .u64 11230858885718282805))), (15, 1, (.k (.int .u64 13951009754708518548))), (16, 1, (.k (.int .u64 16472876342353939154))), (17, 1, (.k (.int .u64 17275323862435702243))), (18, 1, (.k (.int .u64 1135362057144423861))), (19, 1, (.k (.int .u64 2597628984639134821))), (20, 1, (.k (.int .u64 3308224258029322869))), (21, 1, (.k (.int .u64 5365058923640841347))), (22, 1, (.k (.int .u64 6679025012923562964))), (23, 1, (.k (.int .u64 8573033837759648693))), (24, 1, (.k (.int .u64 10970295158949994411))), (25, 1, (.k (.int .u64 12119686244451234320))), (26, 1, (.k (.int .u64 12683024718118986047))), (27, 1, (.k (.int .u64 13788192230050041572))), (28, 1, (.k (.int .u64 14330467153632333762))), (29, 1, (.k (.int .u64 15395433587784984357))), (30, 1, (.k (.int .u64 489312712824947311))), (31, 1, (.k (.int .u64 1452737877330783856))), (32, 1, (.k (.int .u64 2861767655752347644))), (33, 1, (.k (.int .u64 3322285676063803686))), (34, 1, (.k (.int .u64 5560940570517711597))), (35, 1, (.k (.int .u64 5996557281743188959))), (36, 1, (.k (.int .u64 7280758554555802590))), (37, 1, (.k (.int .u64 8532644243296465576))), (38, 1, (.k (.int .u64 9350256976987008742))), (39, 1, (.k (.int .u64 10552545826968843579))), (40, 1, (.k (.int .u64 11727347734174303076))), (41, 1, (.k (.int .u64 12113106623233404929))), (42, 1, (.k (.int .u64 14000437183269869457))), (43, 1, (.k (.int .u64 14369950271660146224))), (44, 1, (.k (.int .u64 15101387698204529176))), (45, 1, (.k (.int .u64 15463397548674623760))), (46, 1, (.k (.int .u64 17586052441742319658))), (47, 1, (.k (.int .u64 1182934255886127544))), (48, 1, (.k (.int .u64 1847814050463011016))), (49, 1, (.k (.int .u64 2177327727835720531))), (50, 1, (.k (.int .u64 2830643537854262169))), (51, 1, (.k (.int .u64 3796741975233480872))), (52, 1, (.k (.int .u64 4115178125766777443))), (53, 1, (.k (.int .u64 5681478168544905931))), (54, 1, (.k (.int .u64 6601373596472566643))), (55, 1, (.k (.int .u64 7507060721942968483))), (56, 1, (.k (.int .u64 8399075790359081724))), (57, 1, (.k (.int .u64 8693463985226723168))), (58, 1, (.k (.int .u64 9568029438360202098))), (59, 1, (.k (.int .u64 10144078919501101548))), (60, 1, (.k (.int .u64 10430055236837252648))), (61, 1, (.k (.int .u64 11840083180663258601))), (62, 1, (.k (.int .u64 13761210420658862357))), (63, 1, (.k (.int .u64 14299343276471374635))), (64, 1, (.k (.int .u64 14566680578165727644))), (65, 1, (.k (.int .u64 15097957966210449927))), (66, 1, (.k (.int .u64 16922976911328602910))), (67, 1, (.k (.int .u64 17689382322260857208))), (68, 1, (.k (.int .u64 500013540394364858))), (69, 1, (.k (.int .u64 748580250866718886))), (70, 1, (.k (.int .u64 1242879168328830382))), (71, 1, (.k (.int .u64 1977374033974150939))), (72, 1, (.k (.int .u64 2944078676154940804))), (73, 1, (.k (.int .u64 3659926193048069267))), (74, 1, (.k (.int .u64 4368137639120453308))), (75, 1, (.k (.int .u64 4836135668995329356))), (76, 1, (.k (.int .u64 5532061633213252278))), (77, 1, (.k (.int .u64 6448918945643986474))), (78, 1, (.k (.int .u64 6902733635092675308))), (79, 1, (.k (.int .u64 7801388544844847127)))]) [],
  o1 0 (.mv (.t 1)) [1]]
/-- bosun/bosunref03.Words -/
@[reducible] def fWords : KCode := (.seq (.reg fWords_r0) (.seq (.reg fWords_r1) .ret))
@[reducible] def fWords_rs : List IRes := [.tmp 0]
theorem fWords_low : lowFunc Try.prog 104 [] [] = some ⟨fWords.bare, fWords_rs, 2⟩ := by kernel_rfl

@[reducible] def fSmall3_r0 : List (DOper × List Nat) := [
  o1 3 (.box 109 (.t 0)) [0],
  o1 5 (.box 107 (.t 2)) [2],
  o1 6 (.mv (.k (.int .u64 0))) [6]]
@[reducible] def fSmall3_r1 : List (DOper × List Nat) := [
  o1 7 (.load (some 14) (.t 3)) [],
  o2 8 1 (.mv (.t 1)) [],
  o2 9 2 (.fieldAddr 0 (.t 5)) [],
  o2 10 3 (.load none (.t 9)) [9],
  o2 12 5 (.load (some 14) (.t 3)) [3],
  o2 13 6 (.mv (.t 1)) [],
  o2 14 7 (.fieldAddr 1 (.t 5)) [],
  o2 15 8 (.load none (.t 14)) [14],
  o2 18 11 (.mv (.t 1)) [1],
  o2 19 12 (.fieldAddr 2 (.t 5)) [5],
  o2 20 13 (.load none (.t 19)) [19],
  o2 21 14 (.bin false .shr (.t 18) (.t 20)) [18, 20],
  (⟨⟨(some 11), none, .call 131 [(.t 7), (.t 8), (.t 10)]⟩, 4, [13, 8, 5]⟩, [7, 8, 10]),
  (⟨⟨(some 16), none, .call 131 [(.t 12), (.t 13), (.t 15)]⟩, 9, [13]⟩, [12, 13, 15]),
  o2 17 10 (.bin false .xor (.t 11) (.t 16)) [11, 16],
  o2 22 15 (.bin false .xor (.t 17) (.t 21)) [17, 21],
  o2 6 16 (.mv (.t 22)) [22]]
/-- (bosun/bosunref03.Form).small -/
@[reducible] def fSmall3 : KCode := (.seq (.reg fSmall3_r0) (.seq (.draw fSmall3_r1) .ret))
@[reducible] def fSmall3_rs : List IRes := [.tmp 6]
theorem fSmall3_low : lowFunc Try.prog 105 [] [(1, [0, 1, 2, 3, 5, 6, 7, 8, 11, 12, 13, 14, 4, 9, 10, 15, 16])] = some ⟨fSmall3.bare, fSmall3_rs, 23⟩ := by kernel_rfl

@[reducible] def fCut3_r0 : List (DOper × List Nat) := [
  o1 2 (.box 109 (.t 0)) [0],
  o1 4 (.mv (.k (.int .u64 0))) [4]]
@[reducible] def fCut3_r1 : List (DOper × List Nat) := [
  o1 5 (.fieldAddr 0 (.t 2)) [2],
  o1 6 (.load none (.t 5)) [5],
  o1 7 (.bin false .eql (.t 6) (.k (.int .i64 32))) [6]]
@[reducible] def fCut3_r2 : List (DOper × List Nat) := [
  o1 8 (.mv (.t 1)) [1],
  o1 9 (.bin false .rem (.t 8) (.k (.int .u64 4294967296))) [8],
  o1 4 (.mv (.t 9)) [9]]
@[reducible] def fCut3_k0 : KCode := (.kill [7] (.seq (.reg fCut3_r2) .ret))
@[reducible] def fCut3_r3 : List (DOper × List Nat) := [
  o1 10 (.mv (.t 1)) [1],
  o1 4 (.mv (.t 10)) [10]]
/-- (bosun/bosunref03.Form).cut -/
@[reducible] def fCut3 : KCode := (.seq (.reg fCut3_r0) (.seq (.seq (.reg fCut3_r1) (.cond (.t 7) fCut3_k0 (.kill [7] .skip))) (.keep [1] (.seq (.reg fCut3_r3) .ret))))
@[reducible] def fCut3_rs : List IRes := [.tmp 4]
theorem fCut3_low : lowFunc Try.prog 106 [] [] = some ⟨fCut3.bare, fCut3_rs, 11⟩ := by kernel_rfl

@[reducible] def fBig3_r0 : List (DOper × List Nat) := [
  o1 3 (.box 109 (.t 0)) [0],
  o1 5 (.box 107 (.t 2)) [2],
  o1 6 (.mv (.k (.int .u64 0))) [6]]
@[reducible] def fBig3_r1 : List (DOper × List Nat) := [
  o1 7 (.load (some 14) (.t 3)) [],
  o2 8 1 (.mv (.t 1)) [],
  o2 9 2 (.fieldAddr 0 (.t 5)) [],
  o2 10 3 (.load none (.t 9)) [9],
  o2 12 5 (.load (some 14) (.t 3)) [],
  o2 13 6 (.mv (.t 1)) [],
  o2 14 7 (.fieldAddr 1 (.t 5)) [],
  o2 15 8 (.load none (.t 14)) [14],
  o2 18 11 (.load (some 14) (.t 3)) [3],
  o2 19 12 (.mv (.t 1)) [1],
  o2 20 13 (.fieldAddr 2 (.t 5)) [5],
  o2 21 14 (.load none (.t 20)) [20],
  (⟨⟨(some 11), none, .call 131 [(.t 7), (.t 8), (.t 10)]⟩, 4, [14, 11, 8, 5]⟩, [7, 8, 10]),
  (⟨⟨(some 16), none, .call 131 [(.t 12), (.t 13), (.t 15)]⟩, 9, [14, 11]⟩, [12, 13, 15]),
  o2 17 10 (.bin false .xor (.t 11) (.t 16)) [11, 16],
  o2 22 15 (.call 131 [(.t 18), (.t 19), (.t 21)]) [18, 19, 21],
  o2 23 16 (.bin false .xor (.t 17) (.t 22)) [17, 22],
  o2 6 17 (.mv (.t 23)) [23]]
/-- (bosun/bosunref03.Form).big -/
@[reducible] def fBig3 : KCode := (.seq (.reg fBig3_r0) (.seq (.draw fBig3_r1) .ret))
@[reducible] def fBig3_rs : List IRes := [.tmp 6]
theorem fBig3_low : lowFunc Try.prog 107 [] [(1, [0, 1, 2, 3, 5, 6, 7, 8, 11, 12, 13, 14, 4, 9, 10, 15, 16, 17])] = some ⟨fBig3.bare, fBig3_rs, 24⟩ := by kernel_rfl

@[reducible] def fTurn3_r0 : List (DOper × List Nat) := [
  o1 3 (.box 109 (.t 0)) [0],
  o1 6 (.mv (.k (.int .u64 0))) [6]]
@[reducible] def fTurn3_r1 : List (DOper × List Nat) := [
  o1 7 (.load (some 14) (.t 3)) [],
  o2 8 1 (.mv (.t 1)) [],
  o2 9 2 (.mv (.t 2)) [],
  o2 10 3 (.bin false .shr (.t 8) (.t 9)) [8, 9],
  o2 11 4 (.mv (.t 1)) [1],
  o2 12 5 (.fieldAddr 0 (.t 3)) [3],
  o2 13 6 (.load none (.t 12)) [12],
  o2 14 7 (.mv (.t 2)) [2],
  o2 15 8 (.bin false .sub (.t 13) (.t 14)) [13, 14],
  o2 16 9 (.bin false .shl (.t 11) (.t 15)) [11, 15],
  o2 17 10 (.bin false .or (.t 10) (.t 16)) [10, 16],
  o2 18 11 (.call 106 [(.t 7), (.t 17)]) [7, 17],
  o2 6 12 (.mv (.t 18)) [18]]
/-- (bosun/bosunref03.Form).turn -/
@[reducible] def fTurn3 : KCode := (.seq (.reg fTurn3_r0) (.seq (.draw fTurn3_r1) .ret))
@[reducible] def fTurn3_rs : List IRes := [.tmp 6]
theorem fTurn3_low : lowFunc Try.prog 131 [] [] = some ⟨fTurn3.bare, fTurn3_rs, 19⟩ := by kernel_rfl

end Go.Proofs.Ythgibibeoapfbaa
