/-
  Codes of functions.
-/
import Derived.Test.YthgibibeoapfbaaeG5
import Derived.Test.YthgibibeoapfbaaRows
set_option linter.unusedSimpArgs false
set_option linter.unnecessarySimpa false
set_option linter.unusedVariables false
set_option linter.unusedSectionVars false
namespace Go.Proofs.Ythgibibeoapfbaa
open Go.Fw
@[reducible] def fDecode_r0 : List (DOper × List Nat) := [
  o1 1 (.box 23 (.t 0)) [0],
  o1 2 (.alloc 62 [(.int .u64 0), (.int .u64 0), (.int .u64 0), (.int .u64 0)]) [],
  o1 3 (.mv (.k (.int .i64 0))) [3]]
@[reducible] def fDecode_r1 : List (DOper × List Nat) := [
  o1 4 (.alloc 62 [(.int .u64 0), (.int .u64 0), (.int .u64 0), (.int .u64 0)]) []]
@[reducible] def fDecode_r2 : List (DOper × List Nat) := [
  o1 7 (.load (some 32) (.t 1)) [1],
  o1 8 (.mv (.k (.int .i64 0))) []]
@[reducible] def fDecode_r3 : List (DOper × List Nat) := [
  o1 9 (.bin false .lss (.t 8) (.k (.int .i64 32))) []]
@[reducible] def fDecode_k0 : KCode := (.keep [2, 4] (.exit 0))
@[reducible] def fDecode_r4 : List (DOper × List Nat) := [
  o1 10 (.mv (.t 8)) [],
  o1 11 (.ixA 32 1 none (.t 7) (.t 8)) [],
  o1 5 (.mv (.t 10)) [10],
  o1 6 (.mv (.t 11)) [11]]
@[reducible] def fDecode_r5 : List (DOper × List Nat) := [
  o1 12 (.mv (.t 5)) [],
  o2 13 1 (.bin false .quo (.t 12) (.k (.int .i64 8))) [12],
  o2 14 2 (.idxA 4 1 (.t 4) (.t 13)) [],
  o2 15 3 (.load none (.t 14)) [14],
  o2 16 4 (.mv (.t 6)) [6],
  o2 17 5 (.convI .u64 (.t 16)) [16],
  o2 18 6 (.mv (.t 5)) [5],
  o2 19 7 (.bin false .rem (.t 18) (.k (.int .i64 8))) [18],
  o2 20 8 (.bin false .mul (.k (.int .i64 8)) (.t 19)) [19],
  o2 21 9 (.bin false .shl (.t 17) (.t 20)) [17, 20],
  o2 22 10 (.bin false .or (.t 15) (.t 21)) [15, 21],
  o2 23 11 (.idxA 4 1 (.t 4) (.t 13)) [13],
  (⟨⟨none, none, .store 1 (.t 23) (.t 22)⟩, 12, []⟩, [22, 23])]
@[reducible] def fDecode_r6 : List (DOper × List Nat) := [
  o1 24 (.bin false .add (.t 8) (.k (.int .i64 1))) [8],
  o1 8 (.mv (.t 24)) [24]]
/-- live: [2, 4, 7, 8] -/
@[reducible] def fDecode_l1 : KCode := (.seq (.reg fDecode_r3) (.seq (.cond (.t 9) (.kill [9] .skip) fDecode_k0) (.kill [9] (.seq (.block 1 (.seq (.reg fDecode_r4) (.draw fDecode_r5))) (.keep [2, 4, 7, 8] (.reg fDecode_r6))))))
@[reducible] def fDecode_r7 : List (DOper × List Nat) := [
  o1 25 (.load (some 4) (.t 4)) [],
  (⟨⟨(some 26), none, .call 43 []⟩, 1, [0]⟩, []),
  o2 27 2 (.call 121 [(.t 25), (.t 26)]) [25, 26],
  o2 28 3 (.un .not (.t 27)) [27]]
@[reducible] def fDecode_r8 : List (DOper × List Nat) := [
  o1 29 (.build [(.int .u64 0), (.int .u64 0), (.int .u64 0), (.int .u64 0)] []) [],
  (⟨⟨none, none, .store 4 (.t 2) (.t 29)⟩, 0, []⟩, [29]),
  o1 3 (.mv (.k (.int .i64 7))) []]
@[reducible] def fDecode_k2 : KCode := (.keep [2] (.seq (.reg fDecode_r8) .ret))
@[reducible] def fDecode_r9 : List (DOper × List Nat) := [
  o1 30 (.load (some 4) (.t 4)) [4],
  (⟨⟨none, none, .store 4 (.t 2) (.t 30)⟩, 0, []⟩, [30]),
  o1 3 (.mv (.k (.int .i64 0))) []]
/-- bosun/scalar.Decode -/
@[reducible] def fDecode : KCode := (.seq (.reg fDecode_r0) (.seq (.reg fDecode_r1) (.seq (.seq (.reg fDecode_r2) (.block 0 (.loop fDecode_l1))) (.keep [2, 4] (.seq (.seq (.draw fDecode_r7) (.cond (.t 28) fDecode_k2 (.kill [28] .skip))) (.keep [2, 4] (.seq (.reg fDecode_r9) .ret)))))))
@[reducible] def fDecode_rs : List IRes := [.cell 2 (some 4), .tmp 3]
theorem fDecode_low : lowFunc Try.prog 98 [] [] = some ⟨fDecode.bare, fDecode_rs, 31⟩ := by kernel_rfl

@[reducible] def fRLess_r0 : List (DOper × List Nat) := [
  o1 2 (.box 48 (.t 0)) [0],
  o1 3 (.box 48 (.t 1)) [1],
  o1 4 (.alloc 48 [(.int .u64 0), (.int .u64 0), (.int .u64 0), (.int .u64 0)]) []]
@[reducible] def fRLess_r1 : List (DOper × List Nat) := [
  o1 5 (.mv (.k (.int .u64 0))) []]
@[reducible] def fRLess_r2 : List (DOper × List Nat) := [
  o1 6 (.mv (.k (.int .i64 0))) []]
@[reducible] def fRLess_r3 : List (DOper × List Nat) := [
  o1 9 (.mv (.t 6)) [],
  o1 10 (.bin false .lss (.t 9) (.k (.int .i64 4))) [9]]
@[reducible] def fRLess_k0 : KCode := (.keep [2, 4] (.exit 0))
@[reducible] def fRLess_r4 : List (DOper × List Nat) := [
  o1 13 (.mv (.t 6)) [],
  o2 14 1 (.idxA 4 1 (.t 2) (.t 13)) [13],
  o2 15 2 (.load none (.t 14)) [14],
  o2 16 3 (.mv (.t 6)) [],
  o2 17 4 (.idxA 4 1 (.t 3) (.t 16)) [16],
  o2 18 5 (.load none (.t 17)) [17],
  o2 19 6 (.bin false .sub (.t 15) (.t 18)) [15, 18],
  o2 20 7 (.mv (.t 5)) [],
  o2 21 8 (.bin false .sub (.t 19) (.t 20)) [19, 20],
  o2 7 9 (.mv (.t 21)) [21]]
@[reducible] def fRLess_r5 : List (DOper × List Nat) := [
  o1 22 (.mv (.t 6)) [],
  o2 23 1 (.idxA 4 1 (.t 2) (.t 22)) [22],
  o2 24 2 (.load none (.t 23)) [23],
  o2 25 3 (.mv (.t 6)) [],
  o2 26 4 (.idxA 4 1 (.t 3) (.t 25)) [25],
  o2 27 5 (.load none (.t 26)) [26],
  o2 28 6 (.bin false .lss (.t 24) (.t 27)) [24, 27],
  o2 29 7 (.mv (.t 28)) [28],
  (⟨⟨(some 30), (some (29, false)), .mv (.t 6)⟩, 8, []⟩, []),
  (⟨⟨(some 31), (some (29, false)), .idxA 4 1 (.t 2) (.t 30)⟩, 9, []⟩, [30]),
  (⟨⟨(some 32), (some (29, false)), .load none (.t 31)⟩, 10, []⟩, [31]),
  (⟨⟨(some 33), (some (29, false)), .mv (.t 6)⟩, 11, []⟩, []),
  (⟨⟨(some 34), (some (29, false)), .idxA 4 1 (.t 3) (.t 33)⟩, 12, []⟩, [33]),
  (⟨⟨(some 35), (some (29, false)), .load none (.t 34)⟩, 13, []⟩, [34]),
  (⟨⟨(some 36), (some (29, false)), .bin false .eql (.t 32) (.t 35)⟩, 14, []⟩, [32, 35]),
  (⟨⟨(some 37), (some (29, false)), .mv (.t 36)⟩, 15, []⟩, [36]),
  (⟨⟨(some 38), (some (37, true)), .mv (.t 5)⟩, 16, []⟩, [5]),
  (⟨⟨(some 39), (some (37, true)), .bin false .eql (.t 38) (.k (.int .u64 1))⟩, 17, []⟩, [38]),
  (⟨⟨(some 40), (some (29, false)), .pick (.t 37) (.t 39) (.k (.bool false))⟩, 18, []⟩, [37, 39]),
  o2 41 19 (.pick (.t 29) (.k (.bool true)) (.t 40)) [29, 40],
  o2 8 20 (.mv (.t 41)) [41]]
@[reducible] def fRLess_r6 : List (DOper × List Nat) := [
  o1 5 (.mv (.k (.int .u64 0))) []]
@[reducible] def fRLess_r7 : List (DOper × List Nat) := [
  o1 42 (.mv (.t 8)) [8]]
@[reducible] def fRLess_r8 : List (DOper × List Nat) := [
  o1 5 (.mv (.k (.int .u64 1))) []]
@[reducible] def fRLess_k1 : KCode := (.kill [5, 42] (.reg fRLess_r8))
@[reducible] def fRLess_r9 : List (DOper × List Nat) := [
  o1 43 (.mv (.t 6)) [],
  o1 44 (.mv (.t 7)) [7],
  o1 45 (.idxA 4 1 (.t 2) (.t 43)) [43],
  (⟨⟨none, none, .store 1 (.t 45) (.t 44)⟩, 0, []⟩, [44, 45])]
@[reducible] def fRLess_r10 : List (DOper × List Nat) := [
  o1 11 (.mv (.t 6)) [6],
  o1 12 (.bin false .add (.t 11) (.k (.int .i64 1))) [11],
  o1 6 (.mv (.t 12)) [12]]
/-- live: [2, 3, 4, 5, 6] -/
@[reducible] def fRLess_l2 : KCode := (.seq (.seq (.reg fRLess_r3) (.cond (.t 10) (.kill [10] .skip) fRLess_k0)) (.kill [9, 10] (.seq (.block 1 (.seq (.draw fRLess_r4) (.seq (.draw fRLess_r5) (.seq (.reg fRLess_r6) (.seq (.seq (.reg fRLess_r7) (.cond (.t 42) fRLess_k1 (.kill [42] .skip))) (.kill [8, 42] (.reg fRLess_r9))))))) (.keep [2, 3, 4, 5, 6] (.reg fRLess_r10)))))
@[reducible] def fRLess_r11 : List (DOper × List Nat) := [
  o1 46 (.load (some 4) (.t 2)) [2],
  (⟨⟨none, none, .store 4 (.t 4) (.t 46)⟩, 0, []⟩, [46])]
/-- bosun/bosunref05.less -/
@[reducible] def fRLess : KCode := (.seq (.reg fRLess_r0) (.seq (.reg fRLess_r1) (.seq (.seq (.reg fRLess_r2) (.block 0 (.loop fRLess_l2))) (.keep [2, 4] (.seq (.reg fRLess_r11) .ret)))))
@[reducible] def fRLess_rs : List IRes := [.cell 4 (some 4)]
theorem fRLess_low : lowFunc Try.prog 125 [] [] = some ⟨fRLess.bare, fRLess_rs, 47⟩ := by kernel_rfl

@[reducible] def fBelow2_r0 : List (DOper × List Nat) := [
  o1 2 (.box 48 (.t 0)) [0],
  o1 3 (.box 48 (.t 1)) [1],
  o1 4 (.mv (.k (.bool false))) [4]]
@[reducible] def fBelow2_r1 : List (DOper × List Nat) := [
  o1 5 (.mv (.k (.int .i64 3))) []]
@[reducible] def fBelow2_r2 : List (DOper × List Nat) := [
  o1 6 (.mv (.t 5)) [],
  o1 7 (.bin false .geq (.t 6) (.k (.int .i64 0))) [6]]
@[reducible] def fBelow2_r3 : List (DOper × List Nat) := [
  o1 10 (.mv (.t 5)) [],
  o2 11 1 (.idxA 4 1 (.t 2) (.t 10)) [10],
  o2 12 2 (.load none (.t 11)) [11],
  o2 13 3 (.mv (.t 5)) [],
  o2 14 4 (.idxA 4 1 (.t 3) (.t 13)) [13],
  o2 15 5 (.load none (.t 14)) [14],
  o2 16 6 (.bin false .neq (.t 12) (.t 15)) [12, 15]]
@[reducible] def fBelow2_r4 : List (DOper × List Nat) := [
  o1 17 (.mv (.t 5)) [],
  o2 18 1 (.idxA 4 1 (.t 2) (.t 17)) [2, 17],
  o2 19 2 (.load none (.t 18)) [18],
  o2 20 3 (.mv (.t 5)) [5],
  o2 21 4 (.idxA 4 1 (.t 3) (.t 20)) [3, 20],
  o2 22 5 (.load none (.t 21)) [21],
  o2 23 6 (.bin false .lss (.t 19) (.t 22)) [19, 22],
  o2 4 7 (.mv (.t 23)) [23]]
@[reducible] def fBelow2_k0 : KCode := (.kill [16] (.seq (.draw fBelow2_r4) .ret))
@[reducible] def fBelow2_r5 : List (DOper × List Nat) := [
  o1 8 (.mv (.t 5)) [5],
  o1 9 (.bin false .sub (.t 8) (.k (.int .i64 1))) [8],
  o1 5 (.mv (.t 9)) [9]]
/-- live: [2, 3, 5] -/
@[reducible] def fBelow2_l1 : KCode := (.seq (.seq (.reg fBelow2_r2) (.cond (.t 7) (.kill [7] .skip) (.keep [] (.exit 0)))) (.kill [6, 7] (.seq (.block 1 (.seq (.draw fBelow2_r3) (.cond (.t 16) fBelow2_k0 (.kill [16] .skip)))) (.keep [2, 3, 5] (.reg fBelow2_r5)))))
@[reducible] def fBelow2_r6 : List (DOper × List Nat) := [
  o1 4 (.mv (.k (.bool false))) []]
/-- bosun/bosunref05.below -/
@[reducible] def fBelow2 : KCode := (.seq (.reg fBelow2_r0) (.seq (.seq (.reg fBelow2_r1) (.block 0 (.loop fBelow2_l1))) (.keep [] (.seq (.reg fBelow2_r6) .ret))))
@[reducible] def fBelow2_rs : List IRes := [.tmp 4]
theorem fBelow2_low : lowFunc Try.prog 124 [] [] = some ⟨fBelow2.bare, fBelow2_rs, 24⟩ := by kernel_rfl

@[reducible] def fBelow_r0 : List (DOper × List Nat) := [
  o1 1 (.box 48 (.t 0)) [0],
  o1 2 (.mv (.k (.bool false))) [2]]
@[reducible] def fBelow_r1 : List (DOper × List Nat) := [
  o1 3 (.load (some 4) (.t 1)) [1],
  (⟨⟨(some 4), none, .call 49 []⟩, 1, [0]⟩, []),
  o2 5 2 (.call 124 [(.t 3), (.t 4)]) [3, 4],
  o2 2 3 (.mv (.t 5)) [5]]
/-- bosun/bosunref05.Below -/
@[reducible] def fBelow : KCode := (.seq (.reg fBelow_r0) (.seq (.draw fBelow_r1) .ret))
@[reducible] def fBelow_rs : List IRes := [.tmp 2]
theorem fBelow_low : lowFunc Try.prog 100 [] [] = some ⟨fBelow.bare, fBelow_rs, 6⟩ := by kernel_rfl

@[reducible] def fL_r0 : List (DOper × List Nat) := [
  o1 0 (.alloc 48 [(.int .u64 0), (.int .u64 0), (.int .u64 0), (.int .u64 0)]) []]
@[reducible] def fL_r1 : List (DOper × List Nat) := [
  o1 1 (.build [(.int .u64 0), (.int .u64 0), (.int .u64 0), (.int .u64 0)] [(0, 1, (.k (.int .u64 6346243789798364141))), (1, 1, (.k (.int .u64 1503914060200516822))), (2, 1, (.k (.int .u64 0))), (3, 1, (.k (.int .u64 1152921504606846976)))]) [],
  (⟨⟨none, none, .store 4 (.t 0) (.t 1)⟩, 0, []⟩, [1])]
/-- bosun/bosunref05.L -/
@[reducible] def fL : KCode := (.seq (.reg fL_r0) (.seq (.reg fL_r1) .ret))
@[reducible] def fL_rs : List IRes := [.cell 0 (some 4)]
theorem fL_low : lowFunc Try.prog 49 [] [] = some ⟨fL.bare, fL_rs, 2⟩ := by kernel_rfl

@[reducible] def fDouble_r0 : List (DOper × List Nat) := [
  o1 2 (.box 48 (.t 0)) [0],
  o1 4 (.alloc 48 [(.int .u64 0), (.int .u64 0), (.int .u64 0), (.int .u64 0)]) []]
@[reducible] def fDouble_r1 : List (DOper × List Nat) := [
  o1 8 (.mv (.t 1)) [1],
  o1 9 (.convI .u64 (.t 8)) [8],
  o1 5 (.mv (.t 9)) [9]]
@[reducible] def fDouble_r2 : List (DOper × List Nat) := [
  o1 6 (.mv (.k (.int .i64 0))) []]
@[reducible] def fDouble_r3 : List (DOper × List Nat) := [
  o1 10 (.mv (.t 6)) [],
  o1 11 (.bin false .lss (.t 10) (.k (.int .i64 4))) [10]]
@[reducible] def fDouble_k0 : KCode := (.keep [2, 4] (.exit 0))
@[reducible] def fDouble_r4 : List (DOper × List Nat) := [
  o1 14 (.mv (.t 6)) [],
  o1 15 (.idxA 4 1 (.t 2) (.t 14)) [14],
  o1 16 (.load none (.t 15)) [15],
  o1 17 (.bin false .shr (.t 16) (.k (.int .u64 63))) [16],
  o1 7 (.mv (.t 17)) [17]]
@[reducible] def fDouble_r5 : List (DOper × List Nat) := [
  o1 18 (.mv (.t 6)) [],
  o1 19 (.mv (.t 6)) [],
  o1 20 (.idxA 4 1 (.t 2) (.t 19)) [19],
  o1 21 (.load none (.t 20)) [20],
  o1 22 (.bin false .mul (.t 21) (.k (.int .u64 2))) [21],
  o1 23 (.mv (.t 5)) [5],
  o1 24 (.bin false .add (.t 22) (.t 23)) [22, 23],
  o1 25 (.idxA 4 1 (.t 2) (.t 18)) [18],
  (⟨⟨none, none, .store 1 (.t 25) (.t 24)⟩, 0, []⟩, [24, 25])]
@[reducible] def fDouble_r6 : List (DOper × List Nat) := [
  o1 26 (.mv (.t 7)) [7],
  o1 5 (.mv (.t 26)) [26]]
@[reducible] def fDouble_r7 : List (DOper × List Nat) := [
  o1 12 (.mv (.t 6)) [6],
  o1 13 (.bin false .add (.t 12) (.k (.int .i64 1))) [12],
  o1 6 (.mv (.t 13)) [13]]
/-- live: [2, 4, 5, 6] -/
@[reducible] def fDouble_l1 : KCode := (.seq (.seq (.reg fDouble_r3) (.cond (.t 11) (.kill [11] .skip) fDouble_k0)) (.kill [10, 11] (.seq (.block 1 (.seq (.reg fDouble_r4) (.seq (.reg fDouble_r5) (.reg fDouble_r6)))) (.keep [2, 4, 5, 6] (.reg fDouble_r7)))))
@[reducible] def fDouble_r8 : List (DOper × List Nat) := [
  o1 27 (.load (some 4) (.t 2)) [],
  (⟨⟨(some 28), none, .call 49 []⟩, 1, [0]⟩, []),
  o2 29 2 (.call 124 [(.t 27), (.t 28)]) [27, 28]]
@[reducible] def fDouble_r9 : List (DOper × List Nat) := [
  o1 30 (.load (some 4) (.t 2)) [2],
  (⟨⟨none, none, .store 4 (.t 4) (.t 30)⟩, 0, []⟩, [30])]
@[reducible] def fDouble_k2 : KCode := (.kill [29] (.seq (.reg fDouble_r9) .ret))
@[reducible] def fDouble_r10 : List (DOper × List Nat) := [
  o1 31 (.load (some 4) (.t 2)) [2],
  (⟨⟨(some 32), none, .call 49 []⟩, 1, [0]⟩, []),
  o2 33 2 (.call 125 [(.t 31), (.t 32)]) [31, 32],
  (⟨⟨none, none, .store 4 (.t 4) (.t 33)⟩, 3, []⟩, [33])]
/-- bosun/bosunref05.double -/
@[reducible] def fDouble : KCode := (.seq (.reg fDouble_r0) (.seq (.reg fDouble_r1) (.seq (.seq (.reg fDouble_r2) (.block 0 (.loop fDouble_l1))) (.keep [2, 4] (.seq (.seq (.draw fDouble_r8) (.cond (.t 29) fDouble_k2 (.kill [29] .skip))) (.keep [2, 4] (.seq (.draw fDouble_r10) .ret)))))))
@[reducible] def fDouble_rs : List IRes := [.cell 4 (some 4)]
theorem fDouble_low : lowFunc Try.prog 126 [] [] = some ⟨fDouble.bare, fDouble_rs, 34⟩ := by kernel_rfl

@[reducible] def fBits_r0 : List (DOper × List Nat) := [
  o1 2 (.mv (.k (.list 1 ⟨true, true, false⟩ []))) [2]]
@[reducible] def fBits_r1 : List (DOper × List Nat) := [
  o1 3 (.mv (.k (.list 1 ⟨true, true, false⟩ []))) []]
@[reducible] def fBits_r2 : List (DOper × List Nat) := [
  o1 4 (.mv (.k (.int .i64 0))) []]
@[reducible] def fBits_r3 : List (DOper × List Nat) := [
  o1 5 (.mv (.t 4)) [],
  o1 6 (.mv (.t 0)) [],
  o1 7 (.len true (.t 6)) [6],
  o1 8 (.bin false .mul (.k (.int .i64 8)) (.t 7)) [7],
  o1 9 (.bin false .lss (.t 5) (.t 8)) [5, 8]]
@[reducible] def fBits_r4 : List (DOper × List Nat) := [
  o1 12 (.mv (.t 3)) [3],
  o1 13 (.mv (.t 0)) [],
  o1 14 (.mv (.t 4)) [],
  o1 15 (.bin false .quo (.t 14) (.k (.int .i64 8))) [14],
  o1 16 (.idxS 1 (.t 13) (.t 15)) [13, 15],
  o1 17 (.load none (.t 16)) [16],
  o1 18 (.mv (.t 4)) [],
  o1 19 (.bin false .rem (.t 18) (.k (.int .i64 8))) [18],
  o1 20 (.bin false .shr (.t 17) (.t 19)) [17, 19],
  o1 21 (.bin false .rem (.t 20) (.k (.int .u8 2))) [20],
  o1 22 (.convI .i64 (.t 21)) [21],
  o1 23 (.buildF 3 1 [(.int .i64 0)] [(0, 1, (.t 22))]) [22],
  o1 24 (.appO 3 1 8 (.t 12) (.t 23)) [12, 23],
  o1 3 (.mv (.t 24)) [24]]
@[reducible] def fBits_r5 : List (DOper × List Nat) := [
  o1 10 (.mv (.t 4)) [4],
  o1 11 (.bin false .add (.t 10) (.k (.int .i64 1))) [10],
  o1 4 (.mv (.t 11)) [11]]
/-- live: [0, 3, 4] -/
@[reducible] def fBits_l0 : KCode := (.seq (.seq (.reg fBits_r3) (.cond (.t 9) (.kill [9] .skip) (.keep [3] (.exit 0)))) (.keep [0, 3, 4] (.seq (.block 1 (.reg fBits_r4)) (.keep [0, 3, 4] (.reg fBits_r5)))))
@[reducible] def fBits_r6 : List (DOper × List Nat) := [
  o1 25 (.mv (.t 3)) [3],
  o1 2 (.mv (.t 25)) [25]]
/-- bosun/bosunref05.Bits -/
@[reducible] def fBits : KCode := (.seq (.reg fBits_r0) (.seq (.reg fBits_r1) (.seq (.seq (.reg fBits_r2) (.block 0 (.loop fBits_l0))) (.keep [3] (.seq (.reg fBits_r6) .ret)))))
@[reducible] def fBits_rs : List IRes := [.tmp 2]
theorem fBits_low : lowFunc Try.prog 127 [] [] = some ⟨fBits.bare, fBits_rs, 26⟩ := by kernel_rfl

@[reducible] def fRReduce_r0 : List (DOper × List Nat) := [
  o1 2 (.alloc 48 [(.int .u64 0), (.int .u64 0), (.int .u64 0), (.int .u64 0)]) []]
@[reducible] def fRReduce_r1 : List (DOper × List Nat) := [
  o1 6 (.mv (.t 0)) [0],
  o1 7 (.call 127 [(.t 6)]) [6],
  o1 3 (.mv (.t 7)) [7]]
@[reducible] def fRReduce_r2 : List (DOper × List Nat) := [
  o1 4 (.alloc 48 [(.int .u64 0), (.int .u64 0), (.int .u64 0), (.int .u64 0)]) []]
@[reducible] def fRReduce_r3 : List (DOper × List Nat) := [
  o1 8 (.mv (.t 3)) [],
  o1 9 (.len true (.t 8)) [8],
  o1 10 (.bin false .sub (.t 9) (.k (.int .i64 1))) [9],
  o1 5 (.mv (.t 10)) [10]]
@[reducible] def fRReduce_r4 : List (DOper × List Nat) := [
  o1 11 (.mv (.t 5)) [],
  o1 12 (.bin false .geq (.t 11) (.k (.int .i64 0))) [11]]
@[reducible] def fRReduce_k0 : KCode := (.keep [2, 4] (.exit 0))
@[reducible] def fRReduce_r5 : List (DOper × List Nat) := [
  o1 15 (.load (some 4) (.t 4)) [],
  o2 16 1 (.mv (.t 3)) [],
  o2 17 2 (.mv (.t 5)) [],
  o2 18 3 (.idxS 1 (.t 16) (.t 17)) [16, 17],
  o2 19 4 (.load none (.t 18)) [18],
  o2 20 5 (.call 126 [(.t 15), (.t 19)]) [15, 19],
  (⟨⟨none, none, .store 4 (.t 4) (.t 20)⟩, 6, []⟩, [20])]
@[reducible] def fRReduce_r6 : List (DOper × List Nat) := [
  o1 13 (.mv (.t 5)) [5],
  o1 14 (.bin false .sub (.t 13) (.k (.int .i64 1))) [13],
  o1 5 (.mv (.t 14)) [14]]
/-- live: [2, 3, 4, 5] -/
@[reducible] def fRReduce_l1 : KCode := (.seq (.seq (.reg fRReduce_r4) (.cond (.t 12) (.kill [12] .skip) fRReduce_k0)) (.kill [11, 12] (.seq (.block 1 (.draw fRReduce_r5)) (.keep [2, 3, 4, 5] (.reg fRReduce_r6)))))
@[reducible] def fRReduce_r7 : List (DOper × List Nat) := [
  o1 21 (.load (some 4) (.t 4)) [4],
  (⟨⟨none, none, .store 4 (.t 2) (.t 21)⟩, 0, []⟩, [21])]
/-- bosun/bosunref05.Reduce -/
@[reducible] def fRReduce : KCode := (.seq (.reg fRReduce_r0) (.seq (.reg fRReduce_r1) (.seq (.reg fRReduce_r2) (.seq (.seq (.reg fRReduce_r3) (.block 0 (.loop fRReduce_l1))) (.keep [2, 4] (.seq (.reg fRReduce_r7) .ret))))))
@[reducible] def fRReduce_rs : List IRes := [.cell 2 (some 4)]
theorem fRReduce_low : lowFunc Try.prog 97 [] [] = some ⟨fRReduce.bare, fRReduce_rs, 22⟩ := by kernel_rfl

@[reducible] def fSgVerify_r0 : List (DOper × List Nat) := [
  o1 3 (.box 147 (.t 0)) [0],
  o1 4 (.box 26 (.t 1)) [1],
  o1 6 (.mv (.k (.int .i64 0))) [6]]
@[reducible] def fSgVerify_r1 : List (DOper × List Nat) := [
  o1 13 (.load (some 32) (.t 3)) [],
  o1 14 (.call 24 [(.t 13)]) [13],
  o1 12 (.mv (.t 14)) [14],
  o1 15 (.extract 0 (.t 12)) [],
  o1 16 (.extract 1 (.t 12)) [12],
  o1 7 (.alloc 51 [(.int .u64 0), (.int .u64 0), (.int .u64 0), (.int .u64 0), (.int .u64 0), (.int .u64 0), (.int .u64 0), (.int .u64 0), (.int .u64 0), (.int .u64 0), (.int .u64 0), (.int .u64 0), (.int .u64 0), (.int .u64 0), (.int .u64 0), (.int .u64 0)]) [],
  (⟨⟨none, none, .store 16 (.t 7) (.t 15)⟩, 0, []⟩, [15]),
  o1 8 (.mv (.t 16)) [16]]
@[reducible] def fSgVerify_r2 : List (DOper × List Nat) := [
  o1 17 (.mv (.t 8)) [8],
  o1 18 (.bin false .neq (.t 17) (.k (.int .i64 0))) [17]]
@[reducible] def fSgVerify_r3 : List (DOper × List Nat) := [
  o1 6 (.mv (.k (.int .i64 9))) []]
@[reducible] def fSgVerify_k0 : KCode := (.keep [] (.seq (.reg fSgVerify_r3) .ret))
@[reducible] def fSgVerify_r4 : List (DOper × List Nat) := [
  o1 20 (.slA 1 64 (.t 4) none (some (.k (.int .i64 32))) none) [],
  o1 21 (.s2a 32 1 (.t 20)) [20],
  o1 22 (.load (some 32) (.t 21)) [21],
  o1 23 (.call 24 [(.t 22)]) [22],
  o1 19 (.mv (.t 23)) [23],
  o1 24 (.extract 0 (.t 19)) [],
  o1 25 (.extract 1 (.t 19)) [19],
  o1 9 (.alloc 51 [(.int .u64 0), (.int .u64 0), (.int .u64 0), (.int .u64 0), (.int .u64 0), (.int .u64 0), (.int .u64 0), (.int .u64 0), (.int .u64 0), (.int .u64 0), (.int .u64 0), (.int .u64 0), (.int .u64 0), (.int .u64 0), (.int .u64 0), (.int .u64 0)]) [],
  (⟨⟨none, none, .store 16 (.t 9) (.t 24)⟩, 0, []⟩, [24]),
  o1 8 (.mv (.t 25)) [25]]
@[reducible] def fSgVerify_r5 : List (DOper × List Nat) := [
  o1 26 (.mv (.t 8)) [8],
  o1 27 (.bin false .neq (.t 26) (.k (.int .i64 0))) [26]]
@[reducible] def fSgVerify_r6 : List (DOper × List Nat) := [
  o1 6 (.mv (.k (.int .i64 9))) []]
@[reducible] def fSgVerify_k1 : KCode := (.keep [] (.seq (.reg fSgVerify_r6) .ret))
@[reducible] def fSgVerify_r7 : List (DOper × List Nat) := [
  o1 29 (.slA 1 64 (.t 4) (some (.k (.int .i64 32))) none none) [],
  o1 30 (.s2a 32 1 (.t 29)) [29],
  o1 31 (.load (some 32) (.t 30)) [30],
  o1 32 (.call 98 [(.t 31)]) [31],
  o1 28 (.mv (.t 32)) [32],
  o1 33 (.extract 0 (.t 28)) [],
  o1 34 (.extract 1 (.t 28)) [28],
  o1 10 (.alloc 62 [(.int .u64 0), (.int .u64 0), (.int .u64 0), (.int .u64 0)]) [],
  (⟨⟨none, none, .store 4 (.t 10) (.t 33)⟩, 0, []⟩, [33]),
  o1 8 (.mv (.t 34)) [34]]
@[reducible] def fSgVerify_r8 : List (DOper × List Nat) := [
  o1 35 (.mv (.t 8)) [8],
  o1 36 (.bin false .neq (.t 35) (.k (.int .i64 0))) [35]]
@[reducible] def fSgVerify_r9 : List (DOper × List Nat) := [
  o1 6 (.mv (.k (.int .i64 9))) []]
@[reducible] def fSgVerify_k2 : KCode := (.keep [] (.seq (.reg fSgVerify_r9) .ret))
@[reducible] def fSgVerify_r10 : List (DOper × List Nat) := [
  o1 37 (.slA 1 64 (.t 4) none (some (.k (.int .i64 32))) none) [4],
  o2 38 1 (.slA 1 32 (.t 3) none none none) [3],
  o2 39 2 (.buildF 30 1 [(.list 1 ⟨true, true, false⟩ []), (.list 1 ⟨true, true, false⟩ [])] [(0, 1, (.t 37)), (1, 1, (.t 38))]) [37, 38],
  o2 40 3 (.mv (.t 2)) [2],
  o2 41 4 (.appF 30 1 24 (.t 39) (.t 40)) [39, 40],
  o2 42 5 (.callP 99 [(.t 41)]) [41],
  (⟨⟨(some 11), none, .alloc 150 [(.int .u8 0), (.int .u8 0), (.int .u8 0), (.int .u8 0), (.int .u8 0), (.int .u8 0), (.int .u8 0), (.int .u8 0), (.int .u8 0), (.int .u8 0), (.int .u8 0), (.int .u8 0), (.int .u8 0), (.int .u8 0), (.int .u8 0), (.int .u8 0), (.int .u8 0), (.int .u8 0), (.int .u8 0), (.int .u8 0), (.int .u8 0), (.int .u8 0), (.int .u8 0), (.int .u8 0), (.int .u8 0), (.int .u8 0), (.int .u8 0), (.int .u8 0), (.int .u8 0), (.int .u8 0), (.int .u8 0), (.int .u8 0), (.int .u8 0), (.int .u8 0), (.int .u8 0), (.int .u8 0), (.int .u8 0), (.int .u8 0), (.int .u8 0), (.int .u8 0), (.int .u8 0), (.int .u8 0), (.int .u8 0), (.int .u8 0), (.int .u8 0), (.int .u8 0), (.int .u8 0), (.int .u8 0), (.int .u8 0), (.int .u8 0), (.int .u8 0), (.int .u8 0), (.int .u8 0), (.int .u8 0), (.int .u8 0), (.int .u8 0), (.int .u8 0), (.int .u8 0), (.int .u8 0), (.int .u8 0), (.int .u8 0), (.int .u8 0), (.int .u8 0), (.int .u8 0)]⟩, 6, [4, 1, 0]⟩, []),
  (⟨⟨none, none, .store 64 (.t 11) (.t 42)⟩, 7, []⟩, [42])]
@[reducible] def fSgVerify_r11 : List (DOper × List Nat) := [
  o2 44 1 (.load (some 4) (.t 10)) [10],
  o2 46 3 (.load (some 16) (.t 9)) [9],
  o2 47 4 (.load (some 16) (.t 7)) [7],
  o2 48 5 (.slA 1 64 (.t 11) none none none) [11],
  (⟨⟨(some 43), none, .call 41 []⟩, 0, [5, 4, 3, 1]⟩, []),
  (⟨⟨(some 45), none, .call 27 [(.t 43), (.t 44)]⟩, 2, [5, 4, 3]⟩, [43, 44]),
  (⟨⟨(some 49), none, .call 40 [(.t 48)]⟩, 6, [4, 3]⟩, [48]),
  (⟨⟨(some 50), none, .call 27 [(.t 47), (.t 49)]⟩, 7, [3]⟩, [47, 49]),
  o2 51 8 (.buildF 51 16 [(.int .u64 0), (.int .u64 0), (.int .u64 0), (.int .u64 0), (.int .u64 0), (.int .u64 0), (.int .u64 0), (.int .u64 0), (.int .u64 0), (.int .u64 0), (.int .u64 0), (.int .u64 0), (.int .u64 0), (.int .u64 0), (.int .u64 0), (.int .u64 0), (.int .u64 0), (.int .u64 0), (.int .u64 0), (.int .u64 0), (.int .u64 0), (.int .u64 0), (.int .u64 0), (.int .u64 0), (.int .u64 0), (.int .u64 0), (.int .u64 0), (.int .u64 0), (.int .u64 0), (.int .u64 0), (.int .u64 0), (.int .u64 0)] [(0, 16, (.t 46)), (16, 16, (.t 50))]) [46, 50],
  o2 52 9 (.call 32 [(.t 51)]) [51],
  o2 53 10 (.call 36 [(.t 45), (.t 52)]) [45, 52],
  o2 54 11 (.un .not (.t 53)) [53]]
@[reducible] def fSgVerify_r12 : List (DOper × List Nat) := [
  o1 6 (.mv (.k (.int .i64 9))) []]
@[reducible] def fSgVerify_k3 : KCode := (.keep [] (.seq (.reg fSgVerify_r12) .ret))
@[reducible] def fSgVerify_r13 : List (DOper × List Nat) := [
  o1 6 (.mv (.k (.int .i64 0))) []]
/-- bosun/sign.Verify -/
@[reducible] def fSgVerify : KCode := (.seq (.reg fSgVerify_r0) (.seq (.reg fSgVerify_r1) (.seq (.seq (.reg fSgVerify_r2) (.cond (.t 18) fSgVerify_k0 (.kill [18] .skip))) (.kill [6, 8, 17, 18] (.seq (.reg fSgVerify_r4) (.seq (.seq (.reg fSgVerify_r5) (.cond (.t 27) fSgVerify_k1 (.kill [27] .skip))) (.kill [6, 8, 26, 27] (.seq (.reg fSgVerify_r7) (.seq (.seq (.reg fSgVerify_r8) (.cond (.t 36) fSgVerify_k2 (.kill [36] .skip))) (.kill [6, 8, 35, 36] (.seq (.draw fSgVerify_r10) (.seq (.seq (.draw fSgVerify_r11) (.cond (.t 54) fSgVerify_k3 (.keep [] .skip))) (.keep [] (.seq (.reg fSgVerify_r13) .ret))))))))))))))
@[reducible] def fSgVerify_rs : List IRes := [.tmp 6]
theorem fSgVerify_low : lowFunc Try.prog 47 [(10, 5), (10, 4)] [(11, [1, 3, 4, 5, 0, 2, 6, 7, 8, 9, 10, 11])] = some ⟨fSgVerify.bare, fSgVerify_rs, 55⟩ := by kernel_rfl

@[reducible] def fRSgHash_r0 : List (DOper × List Nat) := [
  o1 2 (.alloc 48 [(.int .u64 0), (.int .u64 0), (.int .u64 0), (.int .u64 0)]) []]
@[reducible] def fRSgHash_r1 : List (DOper × List Nat) := [
  o1 3 (.mv (.k (.list 1 ⟨true, true, false⟩ []))) []]
@[reducible] def fRSgHash_r2 : List (DOper × List Nat) := [
  o1 4 (.mv (.k (.int .i64 0))) []]
@[reducible] def fRSgHash_r3 : List (DOper × List Nat) := [
  o1 5 (.mv (.t 4)) [],
  o1 6 (.mv (.t 0)) [],
  o1 7 (.len true (.t 6)) [6],
  o1 8 (.bin false .lss (.t 5) (.t 7)) [5, 7]]
@[reducible] def fRSgHash_k0 : KCode := (.keep [2, 3] (.exit 0))
@[reducible] def fRSgHash_r4 : List (DOper × List Nat) := [
  o1 11 (.mv (.t 3)) [3],
  o1 12 (.mv (.t 0)) [],
  o1 13 (.mv (.t 4)) [],
  o1 14 (.idxS 1 (.t 12) (.t 13)) [12, 13],
  o1 15 (.load none (.t 14)) [14],
  o1 16 (.appO 5 1 1 (.t 11) (.t 15)) [11, 15],
  o1 3 (.mv (.t 16)) [16]]
@[reducible] def fRSgHash_r5 : List (DOper × List Nat) := [
  o1 9 (.mv (.t 4)) [4],
  o1 10 (.bin false .add (.t 9) (.k (.int .i64 1))) [9],
  o1 4 (.mv (.t 10)) [10]]
/-- live: [0, 2, 3, 4] -/
@[reducible] def fRSgHash_l1 : KCode := (.seq (.seq (.reg fRSgHash_r3) (.cond (.t 8) (.kill [8] .skip) fRSgHash_k0)) (.kill [5, 6, 7, 8] (.seq (.block 1 (.reg fRSgHash_r4)) (.keep [0, 2, 3, 4] (.reg fRSgHash_r5)))))
@[reducible] def fRSgHash_r6 : List (DOper × List Nat) := [
  o1 17 (.call 123 []) [],
  o1 18 (.mv (.t 3)) [3],
  o1 19 (.call 58 [(.t 17), (.t 18)]) [17, 18],
  o1 20 (.call 97 [(.t 19)]) [19],
  (⟨⟨none, none, .store 4 (.t 2) (.t 20)⟩, 0, []⟩, [20])]
/-- bosun/bosunref07.hash -/
@[reducible] def fRSgHash : KCode := (.seq (.reg fRSgHash_r0) (.seq (.reg fRSgHash_r1) (.seq (.seq (.reg fRSgHash_r2) (.block 0 (.loop fRSgHash_l1))) (.keep [2, 3] (.seq (.reg fRSgHash_r6) .ret)))))
@[reducible] def fRSgHash_rs : List IRes := [.cell 2 (some 4)]
theorem fRSgHash_low : lowFunc Try.prog 94 [] [] = some ⟨fRSgHash.bare, fRSgHash_rs, 21⟩ := by kernel_rfl

@[reducible] def fRSgVerify_r0 : List (DOper × List Nat) := [
  o1 3 (.box 23 (.t 0)) [0],
  o1 5 (.box 25 (.t 2)) [2],
  o1 6 (.mv (.k (.bool false))) [6]]
@[reducible] def fRSgVerify_r1 : List (DOper × List Nat) := [
  o1 7 (.alloc 23 [(.int .u8 0), (.int .u8 0), (.int .u8 0), (.int .u8 0), (.int .u8 0), (.int .u8 0), (.int .u8 0), (.int .u8 0), (.int .u8 0), (.int .u8 0), (.int .u8 0), (.int .u8 0), (.int .u8 0), (.int .u8 0), (.int .u8 0), (.int .u8 0), (.int .u8 0), (.int .u8 0), (.int .u8 0), (.int .u8 0), (.int .u8 0), (.int .u8 0), (.int .u8 0), (.int .u8 0), (.int .u8 0), (.int .u8 0), (.int .u8 0), (.int .u8 0), (.int .u8 0), (.int .u8 0), (.int .u8 0), (.int .u8 0)]) [],
  o1 8 (.alloc 23 [(.int .u8 0), (.int .u8 0), (.int .u8 0), (.int .u8 0), (.int .u8 0), (.int .u8 0), (.int .u8 0), (.int .u8 0), (.int .u8 0), (.int .u8 0), (.int .u8 0), (.int .u8 0), (.int .u8 0), (.int .u8 0), (.int .u8 0), (.int .u8 0), (.int .u8 0), (.int .u8 0), (.int .u8 0), (.int .u8 0), (.int .u8 0), (.int .u8 0), (.int .u8 0), (.int .u8 0), (.int .u8 0), (.int .u8 0), (.int .u8 0), (.int .u8 0), (.int .u8 0), (.int .u8 0), (.int .u8 0), (.int .u8 0)]) []]
@[reducible] def fRSgVerify_r2 : List (DOper × List Nat) := [
  o1 9 (.mv (.k (.int .i64 0))) []]
@[reducible] def fRSgVerify_r3 : List (DOper × List Nat) := [
  o1 19 (.mv (.t 9)) [],
  o1 20 (.bin false .lss (.t 19) (.k (.int .i64 32))) [19]]
@[reducible] def fRSgVerify_k0 : KCode := (.kill [5, 9, 20] (.exit 0))
@[reducible] def fRSgVerify_r4 : List (DOper × List Nat) := [
  o1 23 (.mv (.t 9)) [],
  o1 24 (.mv (.t 9)) [],
  o1 25 (.idxA 64 1 (.t 5) (.t 24)) [24],
  o1 26 (.load none (.t 25)) [25],
  o1 27 (.idxA 32 1 (.t 7) (.t 23)) [23],
  (⟨⟨none, none, .store 1 (.t 27) (.t 26)⟩, 0, []⟩, [26, 27])]
@[reducible] def fRSgVerify_r5 : List (DOper × List Nat) := [
  o1 28 (.mv (.t 9)) [],
  o1 29 (.mv (.t 9)) [],
  o1 30 (.bin false .add (.k (.int .i64 32)) (.t 29)) [29],
  o1 31 (.idxA 64 1 (.t 5) (.t 30)) [30],
  o1 32 (.load none (.t 31)) [31],
  o1 33 (.idxA 32 1 (.t 8) (.t 28)) [28],
  (⟨⟨none, none, .store 1 (.t 33) (.t 32)⟩, 0, []⟩, [32, 33])]
@[reducible] def fRSgVerify_r6 : List (DOper × List Nat) := [
  o1 21 (.mv (.t 9)) [9],
  o1 22 (.bin false .add (.t 21) (.k (.int .i64 1))) [21],
  o1 9 (.mv (.t 22)) [22]]
/-- live: [1, 3, 5, 7, 8, 9] -/
@[reducible] def fRSgVerify_l1 : KCode := (.seq (.seq (.reg fRSgVerify_r3) (.cond (.t 20) (.kill [20] .skip) fRSgVerify_k0)) (.kill [19, 20] (.seq (.block 1 (.seq (.reg fRSgVerify_r4) (.reg fRSgVerify_r5))) (.keep [1, 3, 5, 7, 8, 9] (.reg fRSgVerify_r6)))))
@[reducible] def fRSgVerify_r7 : List (DOper × List Nat) := [
  o1 35 (.load (some 32) (.t 3)) [],
  o1 36 (.call 25 [(.t 35)]) [35],
  o1 34 (.mv (.t 36)) [36],
  o1 37 (.extract 0 (.t 34)) [],
  o1 38 (.extract 1 (.t 34)) [34],
  o1 10 (.alloc 57 [(.int .i64 0), (.int .i64 0), (.int .i64 0), (.int .i64 0), (.int .i64 0), (.int .i64 0), (.int .i64 0), (.int .i64 0), (.int .i64 0), (.int .i64 0), (.int .i64 0), (.int .i64 0), (.int .i64 0), (.int .i64 0), (.int .i64 0), (.int .i64 0), (.int .i64 0), (.int .i64 0), (.int .i64 0), (.int .i64 0), (.int .i64 0), (.int .i64 0), (.int .i64 0), (.int .i64 0), (.int .i64 0), (.int .i64 0), (.int .i64 0), (.int .i64 0), (.int .i64 0), (.int .i64 0), (.int .i64 0), (.int .i64 0), (.int .i64 0), (.int .i64 0), (.int .i64 0), (.int .i64 0), (.int .i64 0), (.int .i64 0), (.int .i64 0), (.int .i64 0), (.int .i64 0), (.int .i64 0), (.int .i64 0), (.int .i64 0), (.int .i64 0), (.int .i64 0), (.int .i64 0), (.int .i64 0), (.int .i64 0), (.int .i64 0), (.int .i64 0)]) [],
  (⟨⟨none, none, .store 51 (.t 10) (.t 37)⟩, 0, []⟩, [37]),
  o1 11 (.mv (.t 38)) [38]]
@[reducible] def fRSgVerify_r8 : List (DOper × List Nat) := [
  o1 40 (.load (some 32) (.t 7)) [],
  o1 41 (.call 25 [(.t 40)]) [40],
  o1 39 (.mv (.t 41)) [41],
  o1 42 (.extract 0 (.t 39)) [],
  o1 43 (.extract 1 (.t 39)) [39],
  o1 12 (.alloc 57 [(.int .i64 0), (.int .i64 0), (.int .i64 0), (.int .i64 0), (.int .i64 0), (.int .i64 0), (.int .i64 0), (.int .i64 0), (.int .i64 0), (.int .i64 0), (.int .i64 0), (.int .i64 0), (.int .i64 0), (.int .i64 0), (.int .i64 0), (.int .i64 0), (.int .i64 0), (.int .i64 0), (.int .i64 0), (.int .i64 0), (.int .i64 0), (.int .i64 0), (.int .i64 0), (.int .i64 0), (.int .i64 0), (.int .i64 0), (.int .i64 0), (.int .i64 0), (.int .i64 0), (.int .i64 0), (.int .i64 0), (.int .i64 0), (.int .i64 0), (.int .i64 0), (.int .i64 0), (.int .i64 0), (.int .i64 0), (.int .i64 0), (.int .i64 0), (.int .i64 0), (.int .i64 0), (.int .i64 0), (.int .i64 0), (.int .i64 0), (.int .i64 0), (.int .i64 0), (.int .i64 0), (.int .i64 0), (.int .i64 0), (.int .i64 0), (.int .i64 0)]) [],
  (⟨⟨none, none, .store 51 (.t 12) (.t 42)⟩, 0, []⟩, [42]),
  o1 13 (.mv (.t 43)) [43]]
@[reducible] def fRSgVerify_r9 : List (DOper × List Nat) := [
  o1 14 (.alloc 48 [(.int .u64 0), (.int .u64 0), (.int .u64 0), (.int .u64 0)]) []]
@[reducible] def fRSgVerify_r10 : List (DOper × List Nat) := [
  o1 15 (.mv (.k (.int .i64 31))) []]
@[reducible] def fRSgVerify_r11 : List (DOper × List Nat) := [
  o1 44 (.mv (.t 15)) [],
  o1 45 (.bin false .geq (.t 44) (.k (.int .i64 0))) [44]]
@[reducible] def fRSgVerify_k2 : KCode := (.kill [8, 15, 45] (.exit 2))
@[reducible] def fRSgVerify_r12 : List (DOper × List Nat) := [
  o1 48 (.mv (.t 15)) [],
  o2 49 1 (.bin false .quo (.t 48) (.k (.int .i64 8))) [48],
  o2 50 2 (.mv (.t 15)) [],
  o2 51 3 (.bin false .quo (.t 50) (.k (.int .i64 8))) [50],
  o2 52 4 (.idxA 4 1 (.t 14) (.t 51)) [51],
  o2 53 5 (.load none (.t 52)) [52],
  o2 54 6 (.bin false .mul (.t 53) (.k (.int .u64 256))) [53],
  o2 55 7 (.mv (.t 15)) [],
  o2 56 8 (.idxA 32 1 (.t 8) (.t 55)) [55],
  o2 57 9 (.load none (.t 56)) [56],
  o2 58 10 (.convI .u64 (.t 57)) [57],
  o2 59 11 (.bin false .add (.t 54) (.t 58)) [54, 58],
  o2 60 12 (.idxA 4 1 (.t 14) (.t 49)) [49],
  (⟨⟨none, none, .store 1 (.t 60) (.t 59)⟩, 13, []⟩, [59, 60])]
@[reducible] def fRSgVerify_r13 : List (DOper × List Nat) := [
  o1 46 (.mv (.t 15)) [15],
  o1 47 (.bin false .sub (.t 46) (.k (.int .i64 1))) [46],
  o1 15 (.mv (.t 47)) [47]]
/-- live: [1, 3, 7, 8, 10, 11, 12, 13, 14, 15] -/
@[reducible] def fRSgVerify_l3 : KCode := (.seq (.seq (.reg fRSgVerify_r11) (.cond (.t 45) (.kill [45] .skip) fRSgVerify_k2)) (.kill [44, 45] (.seq (.block 3 (.draw fRSgVerify_r12)) (.keep [1, 3, 7, 8, 10, 11, 12, 13, 14, 15] (.reg fRSgVerify_r13)))))
@[reducible] def fRSgVerify_r14 : List (DOper × List Nat) := [
  o1 61 (.load (some 4) (.t 14)) [],
  o1 62 (.call 100 [(.t 61)]) [61],
  o1 16 (.mv (.t 62)) [62]]
@[reducible] def fRSgVerify_r15 : List (DOper × List Nat) := [
  o1 63 (.mv (.t 11)) [11],
  o1 64 (.un .not (.t 63)) [63],
  o1 65 (.mv (.t 64)) [64],
  (⟨⟨(some 66), (some (65, false)), .mv (.t 13)⟩, 0, []⟩, [13]),
  (⟨⟨(some 67), (some (65, false)), .un .not (.t 66)⟩, 0, []⟩, [66]),
  o1 68 (.pick (.t 65) (.k (.bool true)) (.t 67)) [65, 67],
  o1 69 (.mv (.t 68)) [68],
  (⟨⟨(some 70), (some (69, false)), .mv (.t 16)⟩, 0, []⟩, [16]),
  (⟨⟨(some 71), (some (69, false)), .un .not (.t 70)⟩, 0, []⟩, [70]),
  o1 72 (.pick (.t 69) (.k (.bool true)) (.t 71)) [69, 71]]
@[reducible] def fRSgVerify_r16 : List (DOper × List Nat) := [
  o1 6 (.mv (.k (.bool false))) []]
@[reducible] def fRSgVerify_k4 : KCode := (.keep [] (.seq (.reg fRSgVerify_r16) .ret))
@[reducible] def fRSgVerify_r17 : List (DOper × List Nat) := [
  o1 73 (.call 30 []) [],
  o1 17 (.alloc 55 [(.int .i64 0), (.int .i64 0), (.int .i64 0), (.int .i64 0), (.int .i64 0), (.int .i64 0), (.int .i64 0), (.int .i64 0), (.int .i64 0), (.int .i64 0), (.int .i64 0), (.int .i64 0), (.int .i64 0), (.int .i64 0), (.int .i64 0), (.int .i64 0), (.int .i64 0)]) [],
  (⟨⟨none, none, .store 17 (.t 17) (.t 73)⟩, 0, []⟩, [73])]
@[reducible] def fRSgVerify_r18 : List (DOper × List Nat) := [
  o1 74 (.slA 1 32 (.t 7) none none none) [7],
  o2 75 1 (.slA 1 32 (.t 3) none none none) [3],
  o2 76 2 (.mv (.t 1)) [1],
  o2 77 3 (.buildF 30 1 [(.list 1 ⟨true, true, false⟩ []), (.list 1 ⟨true, true, false⟩ []), (.list 1 ⟨true, true, false⟩ [])] [(0, 1, (.t 74)), (1, 1, (.t 75)), (2, 1, (.t 76))]) [74, 75, 76],
  o2 78 4 (.callP 94 [(.t 77)]) [77],
  (⟨⟨(some 18), none, .alloc 48 [(.int .u64 0), (.int .u64 0), (.int .u64 0), (.int .u64 0)]⟩, 5, [1, 0]⟩, []),
  (⟨⟨none, none, .store 4 (.t 18) (.t 78)⟩, 6, []⟩, [78])]
@[reducible] def fRSgVerify_r19 : List (DOper × List Nat) := [
  o2 80 1 (.load (some 4) (.t 14)) [14],
  o2 81 2 (.load (some 17) (.t 17)) [],
  o2 83 4 (.load (some 51) (.t 12)) [12],
  o2 84 5 (.load (some 51) (.t 10)) [10],
  o2 85 6 (.load (some 4) (.t 18)) [18],
  o2 86 7 (.load (some 17) (.t 17)) [],
  o2 88 9 (.load (some 17) (.t 17)) [17],
  (⟨⟨(some 79), none, .call 89 []⟩, 0, [9, 7, 6, 5, 4, 2, 1]⟩, []),
  (⟨⟨(some 82), none, .call 29 [(.t 79), (.t 80), (.t 81)]⟩, 3, [9, 7, 6, 5, 4]⟩, [79, 80, 81]),
  (⟨⟨(some 87), none, .call 29 [(.t 84), (.t 85), (.t 86)]⟩, 8, [9, 4]⟩, [84, 85, 86]),
  o2 89 10 (.call 34 [(.t 83), (.t 87), (.t 88)]) [83, 87, 88],
  o2 90 11 (.call 37 [(.t 82), (.t 89)]) [82, 89],
  o2 6 12 (.mv (.t 90)) [90]]
/-- bosun/bosunref07.Verify -/
@[reducible] def fRSgVerify : KCode := (.seq (.reg fRSgVerify_r0) (.seq (.reg fRSgVerify_r1) (.seq (.seq (.reg fRSgVerify_r2) (.block 0 (.loop fRSgVerify_l1))) (.keep [1, 3, 7, 8] (.seq (.reg fRSgVerify_r7) (.seq (.reg fRSgVerify_r8) (.seq (.reg fRSgVerify_r9) (.seq (.seq (.reg fRSgVerify_r10) (.block 2 (.loop fRSgVerify_l3))) (.keep [1, 3, 7, 10, 11, 12, 13, 14] (.seq (.reg fRSgVerify_r14) (.seq (.seq (.reg fRSgVerify_r15) (.cond (.t 72) fRSgVerify_k4 (.kill [72] .skip))) (.keep [1, 3, 7, 10, 12, 14] (.seq (.reg fRSgVerify_r17) (.seq (.draw fRSgVerify_r18) (.seq (.draw fRSgVerify_r19) .ret)))))))))))))))
@[reducible] def fRSgVerify_rs : List IRes := [.tmp 6]
theorem fRSgVerify_low : lowFunc Try.prog 48 [(18, 4)] [(19, [1, 2, 4, 5, 6, 7, 9, 0, 3, 8, 10, 11, 12])] = some ⟨fRSgVerify.bare, fRSgVerify_rs, 91⟩ := by kernel_rfl

@[reducible] def fSgKnown_r0 : List (DOper × List Nat) := [
  o1 0 (.alloc 23 [(.int .u8 0), (.int .u8 0), (.int .u8 0), (.int .u8 0), (.int .u8 0), (.int .u8 0), (.int .u8 0), (.int .u8 0), (.int .u8 0), (.int .u8 0), (.int .u8 0), (.int .u8 0), (.int .u8 0), (.int .u8 0), (.int .u8 0), (.int .u8 0), (.int .u8 0), (.int .u8 0), (.int .u8 0), (.int .u8 0), (.int .u8 0), (.int .u8 0), (.int .u8 0), (.int .u8 0), (.int .u8 0), (.int .u8 0), (.int .u8 0), (.int .u8 0), (.int .u8 0), (.int .u8 0), (.int .u8 0), (.int .u8 0)]) [],
  o1 1 (.alloc 25 [(.int .u8 0), (.int .u8 0), (.int .u8 0), (.int .u8 0), (.int .u8 0), (.int .u8 0), (.int .u8 0), (.int .u8 0), (.int .u8 0), (.int .u8 0), (.int .u8 0), (.int .u8 0), (.int .u8 0), (.int .u8 0), (.int .u8 0), (.int .u8 0), (.int .u8 0), (.int .u8 0), (.int .u8 0), (.int .u8 0), (.int .u8 0), (.int .u8 0), (.int .u8 0), (.int .u8 0), (.int .u8 0), (.int .u8 0), (.int .u8 0), (.int .u8 0), (.int .u8 0), (.int .u8 0), (.int .u8 0), (.int .u8 0), (.int .u8 0), (.int .u8 0), (.int .u8 0), (.int .u8 0), (.int .u8 0), (.int .u8 0), (.int .u8 0), (.int .u8 0), (.int .u8 0), (.int .u8 0), (.int .u8 0), (.int .u8 0), (.int .u8 0), (.int .u8 0), (.int .u8 0), (.int .u8 0), (.int .u8 0), (.int .u8 0), (.int .u8 0), (.int .u8 0), (.int .u8 0), (.int .u8 0), (.int .u8 0), (.int .u8 0), (.int .u8 0), (.int .u8 0), (.int .u8 0), (.int .u8 0), (.int .u8 0), (.int .u8 0), (.int .u8 0), (.int .u8 0)]) []]
@[reducible] def fSgKnown_r1 : List (DOper × List Nat) := [
  o1 4 (.build [(.int .u8 0), (.int .u8 0), (.int .u8 0), (.int .u8 0), (.int .u8 0), (.int .u8 0), (.int .u8 0), (.int .u8 0), (.int .u8 0), (.int .u8 0), (.int .u8 0), (.int .u8 0), (.int .u8 0), (.int .u8 0), (.int .u8 0), (.int .u8 0), (.int .u8 0), (.int .u8 0), (.int .u8 0), (.int .u8 0), (.int .u8 0), (.int .u8 0), (.int .u8 0), (.int .u8 0), (.int .u8 0), (.int .u8 0), (.int .u8 0), (.int .u8 0), (.int .u8 0), (.int .u8 0), (.int .u8 0), (.int .u8 0)] [(0, 1, (.k (.int .u8 215))), (1, 1, (.k (.int .u8 90))), (2, 1, (.k (.int .u8 152))), (3, 1, (.k (.int .u8 1))), (4, 1, (.k (.int .u8 130))), (5, 1, (.k (.int .u8 177))), (6, 1, (.k (.int .u8 10))), (7, 1, (.k (.int .u8 183))), (8, 1, (.k (.int .u8 213))), (9, 1, (.k (.int .u8 75))), (10, 1, (.k (.int .u8 254))), (11, 1, (.k (.int .u8 211))), (12, 1, (.k (.int .u8 201))), (13, 1, (.k (.int .u8 100))), (14, 1, (.k (.int .u8 7))), (15, 1, (.k (.int .u8 58))), (16, 1, (.k (.int .u8 14))), (17, 1, (.k (.int .u8 225))), (18, 1, (.k (.int .u8 114))), (19, 1, (.k (.int .u8 243))), (20, 1, (.k (.int .u8 218))), (21, 1, (.k (.int .u8 166))), (22, 1, (.k (.int .u8 35))), (23, 1, (.k (.int .u8 37))), (24, 1, (.k (.int .u8 175))), (25, 1, (.k (.int .u8 2))), (26, 1, (.k (.int .u8 26))), (27, 1, (.k (.int .u8 104))), (28, 1, (.k (.int .u8 247))), (29, 1, (.k (.int .u8 7))), (30, 1, (.k (.int .u8 81))), (31, 1, (.k (.int .u8 26)))]) [],
  o1 2 (.alloc 23 [(.int .u8 0), (.int .u8 0), (.int .u8 0), (.int .u8 0), (.int .u8 0), (.int .u8 0), (.int .u8 0), (.int .u8 0), (.int .u8 0), (.int .u8 0), (.int .u8 0), (.int .u8 0), (.int .u8 0), (.int .u8 0), (.int .u8 0), (.int .u8 0), (.int .u8 0), (.int .u8 0), (.int .u8 0), (.int .u8 0), (.int .u8 0), (.int .u8 0), (.int .u8 0), (.int .u8 0), (.int .u8 0), (.int .u8 0), (.int .u8 0), (.int .u8 0), (.int .u8 0), (.int .u8 0), (.int .u8 0), (.int .u8 0)]) [],
  (⟨⟨none, none, .store 32 (.t 2) (.t 4)⟩, 0, []⟩, [4])]
@[reducible] def fSgKnown_r2 : List (DOper × List Nat) := [
  o1 5 (.build [(.int .u8 0), (.int .u8 0), (.int .u8 0), (.int .u8 0), (.int .u8 0), (.int .u8 0), (.int .u8 0), (.int .u8 0), (.int .u8 0), (.int .u8 0), (.int .u8 0), (.int .u8 0), (.int .u8 0), (.int .u8 0), (.int .u8 0), (.int .u8 0), (.int .u8 0), (.int .u8 0), (.int .u8 0), (.int .u8 0), (.int .u8 0), (.int .u8 0), (.int .u8 0), (.int .u8 0), (.int .u8 0), (.int .u8 0), (.int .u8 0), (.int .u8 0), (.int .u8 0), (.int .u8 0), (.int .u8 0), (.int .u8 0), (.int .u8 0), (.int .u8 0), (.int .u8 0), (.int .u8 0), (.int .u8 0), (.int .u8 0), (.int .u8 0), (.int .u8 0), (.int .u8 0), (.int .u8 0), (.int .u8 0), (.int .u8 0), (.int .u8 0), (.int .u8 0), (.int .u8 0), (.int .u8 0), (.int .u8 0), (.int .u8 0), (.int .u8 0), (.int .u8 0), (.int .u8 0), (.int .u8 0), (.int .u8 0), (.int .u8 0), (.int .u8 0), (.int .u8 0), (.int .u8 0), (.int .u8 0), (.int .u8 0), (.int .u8 0), (.int .u8 0), (.int .u8 0)] [(0, 1, (.k (.int .u8 229))), (1, 1, (.k (.int .u8 86))), (2, 1, (.k (.int .u8 67))), (3, 1, (.k (.int .u8 0))), (4, 1, (.k (.int .u8 195))), (5, 1, (.k (.int .u8 96))), (6, 1, (.k (.int .u8 172))), (7, 1, (.k (.int .u8 114))), (8, 1, (.k (.int .u8 144))), (9, 1, (.k (.int .u8 134))), (10, 1, (.k (.int .u8 226))), (11, 1, (.k (.int .u8 204))), (12, 1, (.k (.int .u8 128))), (13, 1, (.k (.int .u8 110))), (14, 1, (.k (.int .u8 130))), (15, 1, (.k (.int .u8 138))), (16, 1, (.k (.int .u8 132))), (17, 1, (.k (.int .u8 135))), (18, 1, (.k (.int .u8 127))), (19, 1, (.k (.int .u8 30))), (20, 1, (.k (.int .u8 184))), (21, 1, (.k (.int .u8 229))), (22, 1, (.k (.int .u8 217))), (23, 1, (.k (.int .u8 116))), (24, 1, (.k (.int .u8 216))), (25, 1, (.k (.int .u8 115))), (26, 1, (.k (.int .u8 224))), (27, 1, (.k (.int .u8 101))), (28, 1, (.k (.int .u8 34))), (29, 1, (.k (.int .u8 73))), (30, 1, (.k (.int .u8 1))), (31, 1, (.k (.int .u8 85))), (32, 1, (.k (.int .u8 95))), (33, 1, (.k (.int .u8 184))), (34, 1, (.k (.int .u8 130))), (35, 1, (.k (.int .u8 21))), (36, 1, (.k (.int .u8 144))), (37, 1, (.k (.int .u8 163))), (38, 1, (.k (.int .u8 59))), (39, 1, (.k (.int .u8 172))), (40, 1, (.k (.int .u8 198))), (41, 1, (.k (.int .u8 30))), (42, 1, (.k (.int .u8 57))), (43, 1, (.k (.int .u8 112))), (44, 1, (.k (.int .u8 28))), (45, 1, (.k (.int .u8 249))), (46, 1, (.k (.int .u8 180))), (47, 1, (.k (.int .u8 107))), (48, 1, (.k (.int .u8 210))), (49, 1, (.k (.int .u8 91))), (50, 1, (.k (.int .u8 245))), (51, 1, (.k (.int .u8 240))), (52, 1, (.k (.int .u8 89))), (53, 1, (.k (.int .u8 91))), (54, 1, (.k (.int .u8 190))), (55, 1, (.k (.int .u8 36))), (56, 1, (.k (.int .u8 101))), (57, 1, (.k (.int .u8 81))), (58, 1, (.k (.int .u8 65))), (59, 1, (.k (.int .u8 67))), (60, 1, (.k (.int .u8 142))), (61, 1, (.k (.int .u8 122))), (62, 1, (.k (.int .u8 16))), (63, 1, (.k (.int .u8 11)))]) [],
  o1 3 (.alloc 25 [(.int .u8 0), (.int .u8 0), (.int .u8 0), (.int .u8 0), (.int .u8 0), (.int .u8 0), (.int .u8 0), (.int .u8 0), (.int .u8 0), (.int .u8 0), (.int .u8 0), (.int .u8 0), (.int .u8 0), (.int .u8 0), (.int .u8 0), (.int .u8 0), (.int .u8 0), (.int .u8 0), (.int .u8 0), (.int .u8 0), (.int .u8 0), (.int .u8 0), (.int .u8 0), (.int .u8 0), (.int .u8 0), (.int .u8 0), (.int .u8 0), (.int .u8 0), (.int .u8 0), (.int .u8 0), (.int .u8 0), (.int .u8 0), (.int .u8 0), (.int .u8 0), (.int .u8 0), (.int .u8 0), (.int .u8 0), (.int .u8 0), (.int .u8 0), (.int .u8 0), (.int .u8 0), (.int .u8 0), (.int .u8 0), (.int .u8 0), (.int .u8 0), (.int .u8 0), (.int .u8 0), (.int .u8 0), (.int .u8 0), (.int .u8 0), (.int .u8 0), (.int .u8 0), (.int .u8 0), (.int .u8 0), (.int .u8 0), (.int .u8 0), (.int .u8 0), (.int .u8 0), (.int .u8 0), (.int .u8 0), (.int .u8 0), (.int .u8 0), (.int .u8 0), (.int .u8 0)]) [],
  (⟨⟨none, none, .store 64 (.t 3) (.t 5)⟩, 0, []⟩, [5])]
@[reducible] def fSgKnown_r3 : List (DOper × List Nat) := [
  o1 6 (.load (some 32) (.t 2)) [2],
  o2 7 1 (.load (some 64) (.t 3)) [3],
  (⟨⟨none, none, .store 32 (.t 0) (.t 6)⟩, 2, [1]⟩, [6]),
  (⟨⟨none, none, .store 64 (.t 1) (.t 7)⟩, 3, []⟩, [7])]
/-- bosun/bosunlaw08.known -/
@[reducible] def fSgKnown : KCode := (.seq (.reg fSgKnown_r0) (.seq (.reg fSgKnown_r1) (.seq (.reg fSgKnown_r2) (.seq (.draw fSgKnown_r3) .ret))))
@[reducible] def fSgKnown_rs : List IRes := [.cell 0 (some 32), .cell 1 (some 64)]
theorem fSgKnown_low : lowFunc Try.prog 92 [] [] = some ⟨fSgKnown.bare, fSgKnown_rs, 8⟩ := by kernel_rfl

@[reducible] def fSgLives_r0 : List (DOper × List Nat) := [
  o1 0 (.mv (.k (.bool false))) [0]]
@[reducible] def fSgLives_r1 : List (DOper × List Nat) := [
  o1 5 (.call 92 []) [],
  o1 4 (.mv (.t 5)) [5],
  o1 6 (.extract 0 (.t 4)) [],
  o1 7 (.extract 1 (.t 4)) [4],
  o1 1 (.alloc 23 [(.int .u8 0), (.int .u8 0), (.int .u8 0), (.int .u8 0), (.int .u8 0), (.int .u8 0), (.int .u8 0), (.int .u8 0), (.int .u8 0), (.int .u8 0), (.int .u8 0), (.int .u8 0), (.int .u8 0), (.int .u8 0), (.int .u8 0), (.int .u8 0), (.int .u8 0), (.int .u8 0), (.int .u8 0), (.int .u8 0), (.int .u8 0), (.int .u8 0), (.int .u8 0), (.int .u8 0), (.int .u8 0), (.int .u8 0), (.int .u8 0), (.int .u8 0), (.int .u8 0), (.int .u8 0), (.int .u8 0), (.int .u8 0)]) [],
  o1 2 (.alloc 25 [(.int .u8 0), (.int .u8 0), (.int .u8 0), (.int .u8 0), (.int .u8 0), (.int .u8 0), (.int .u8 0), (.int .u8 0), (.int .u8 0), (.int .u8 0), (.int .u8 0), (.int .u8 0), (.int .u8 0), (.int .u8 0), (.int .u8 0), (.int .u8 0), (.int .u8 0), (.int .u8 0), (.int .u8 0), (.int .u8 0), (.int .u8 0), (.int .u8 0), (.int .u8 0), (.int .u8 0), (.int .u8 0), (.int .u8 0), (.int .u8 0), (.int .u8 0), (.int .u8 0), (.int .u8 0), (.int .u8 0), (.int .u8 0), (.int .u8 0), (.int .u8 0), (.int .u8 0), (.int .u8 0), (.int .u8 0), (.int .u8 0), (.int .u8 0), (.int .u8 0), (.int .u8 0), (.int .u8 0), (.int .u8 0), (.int .u8 0), (.int .u8 0), (.int .u8 0), (.int .u8 0), (.int .u8 0), (.int .u8 0), (.int .u8 0), (.int .u8 0), (.int .u8 0), (.int .u8 0), (.int .u8 0), (.int .u8 0), (.int .u8 0), (.int .u8 0), (.int .u8 0), (.int .u8 0), (.int .u8 0), (.int .u8 0), (.int .u8 0), (.int .u8 0), (.int .u8 0)]) [],
  (⟨⟨none, none, .store 32 (.t 1) (.t 6)⟩, 0, []⟩, [6]),
  (⟨⟨none, none, .store 64 (.t 2) (.t 7)⟩, 0, []⟩, [7])]
@[reducible] def fSgLives_r2 : List (DOper × List Nat) := [
  o1 8 (.load (some 64) (.t 2)) [],
  o1 3 (.alloc 25 [(.int .u8 0), (.int .u8 0), (.int .u8 0), (.int .u8 0), (.int .u8 0), (.int .u8 0), (.int .u8 0), (.int .u8 0), (.int .u8 0), (.int .u8 0), (.int .u8 0), (.int .u8 0), (.int .u8 0), (.int .u8 0), (.int .u8 0), (.int .u8 0), (.int .u8 0), (.int .u8 0), (.int .u8 0), (.int .u8 0), (.int .u8 0), (.int .u8 0), (.int .u8 0), (.int .u8 0), (.int .u8 0), (.int .u8 0), (.int .u8 0), (.int .u8 0), (.int .u8 0), (.int .u8 0), (.int .u8 0), (.int .u8 0), (.int .u8 0), (.int .u8 0), (.int .u8 0), (.int .u8 0), (.int .u8 0), (.int .u8 0), (.int .u8 0), (.int .u8 0), (.int .u8 0), (.int .u8 0), (.int .u8 0), (.int .u8 0), (.int .u8 0), (.int .u8 0), (.int .u8 0), (.int .u8 0), (.int .u8 0), (.int .u8 0), (.int .u8 0), (.int .u8 0), (.int .u8 0), (.int .u8 0), (.int .u8 0), (.int .u8 0), (.int .u8 0), (.int .u8 0), (.int .u8 0), (.int .u8 0), (.int .u8 0), (.int .u8 0), (.int .u8 0), (.int .u8 0)]) [],
  (⟨⟨none, none, .store 64 (.t 3) (.t 8)⟩, 0, []⟩, [8])]
@[reducible] def fSgLives_r3 : List (DOper × List Nat) := [
  o1 9 (.idxA 64 1 (.t 3) (.k (.int .i64 40))) [],
  o1 10 (.load none (.t 9)) [9],
  o1 11 (.bin false .xor (.t 10) (.k (.int .u8 4))) [10],
  o1 12 (.idxA 64 1 (.t 3) (.k (.int .i64 40))) [],
  (⟨⟨none, none, .store 1 (.t 12) (.t 11)⟩, 0, []⟩, [11, 12])]
@[reducible] def fSgLives_r4 : List (DOper × List Nat) := [
  o1 13 (.load (some 32) (.t 1)) [],
  o1 14 (.load (some 64) (.t 2)) [],
  o1 15 (.call 47 [(.t 13), (.t 14), (.k (.list 1 ⟨true, true, false⟩ []))]) [13, 14],
  o1 16 (.bin false .eql (.t 15) (.k (.int .i64 0))) [15],
  o1 17 (.mv (.t 16)) [16],
  (⟨⟨(some 18), (some (17, true)), .load (some 32) (.t 1)⟩, 0, []⟩, []),
  (⟨⟨(some 19), (some (17, true)), .load (some 64) (.t 3)⟩, 0, []⟩, [3]),
  (⟨⟨(some 20), (some (17, true)), .call 47 [(.t 18), (.t 19), (.k (.list 1 ⟨true, true, false⟩ []))]⟩, 0, []⟩, [18, 19]),
  (⟨⟨(some 21), (some (17, true)), .bin false .eql (.t 20) (.k (.int .i64 9))⟩, 0, []⟩, [20]),
  o1 22 (.pick (.t 17) (.t 21) (.k (.bool false))) [17, 21],
  o1 23 (.mv (.t 22)) [22],
  (⟨⟨(some 24), (some (23, true)), .load (some 32) (.t 1)⟩, 0, []⟩, [1]),
  (⟨⟨(some 25), (some (23, true)), .load (some 64) (.t 2)⟩, 0, []⟩, [2]),
  (⟨⟨(some 26), (some (23, true)), .buildF 5 1 [(.int .u8 0)] [(0, 1, (.k (.int .u8 0)))]⟩, 0, []⟩, []),
  (⟨⟨(some 27), (some (23, true)), .buildF 30 1 [(.list 1 ⟨true, true, false⟩ [])] [(0, 1, (.t 26))]⟩, 0, []⟩, [26]),
  (⟨⟨(some 28), (some (23, true)), .call 47 [(.t 24), (.t 25), (.t 27)]⟩, 0, []⟩, [24, 25, 27]),
  (⟨⟨(some 29), (some (23, true)), .bin false .eql (.t 28) (.k (.int .i64 9))⟩, 0, []⟩, [28]),
  o1 30 (.pick (.t 23) (.t 29) (.k (.bool false))) [23, 29],
  o1 0 (.mv (.t 30)) [30]]
/-- bosun/bosunlaw08.lives -/
@[reducible] def fSgLives : KCode := (.seq (.reg fSgLives_r0) (.seq (.reg fSgLives_r1) (.seq (.reg fSgLives_r2) (.seq (.reg fSgLives_r3) (.seq (.reg fSgLives_r4) .ret)))))
@[reducible] def fSgLives_rs : List IRes := [.tmp 0]
theorem fSgLives_low : lowFunc Try.prog 44 [] [] = some ⟨fSgLives.bare, fSgLives_rs, 31⟩ := by kernel_rfl

@[reducible] def fSgAny_r0 : List (DOper × List Nat) := [
  o1 3 (.box 23 (.t 0)) [0],
  o1 4 (.box 25 (.t 1)) [1],
  o1 6 (.mv (.k (.bool false))) [6]]
@[reducible] def fSgAny_r1 : List (DOper × List Nat) := [
  o1 8 (.call 44 []) [],
  o1 9 (.un .not (.t 8)) [8],
  o1 10 (.mv (.t 9)) [9],
  (⟨⟨(some 11), (some (10, false)), .mv (.t 2)⟩, 0, []⟩, []),
  (⟨⟨(some 12), (some (10, false)), .len true (.t 11)⟩, 0, []⟩, [11]),
  (⟨⟨(some 13), (some (10, false)), .bin false .gtr (.t 12) (.k (.int .i64 200))⟩, 0, []⟩, [12]),
  o1 14 (.pick (.t 10) (.k (.bool true)) (.t 13)) [10, 13]]
@[reducible] def fSgAny_r2 : List (DOper × List Nat) := [
  o1 15 (.call 44 []) [],
  o1 6 (.mv (.t 15)) [15]]
@[reducible] def fSgAny_k0 : KCode := (.keep [] (.seq (.reg fSgAny_r2) .ret))
@[reducible] def fSgAny_r3 : List (DOper × List Nat) := [
  o1 16 (.load (some 32) (.t 3)) [],
  o1 17 (.load (some 64) (.t 4)) [],
  o1 18 (.mv (.t 2)) [],
  o1 19 (.buildF 30 1 [(.list 1 ⟨true, true, false⟩ [])] [(0, 1, (.t 18))]) [18],
  o1 20 (.call 47 [(.t 16), (.t 17), (.t 19)]) [16, 17, 19],
  o1 7 (.mv (.t 20)) [20]]
@[reducible] def fSgAny_r4 : List (DOper × List Nat) := [
  o1 21 (.mv (.t 7)) [],
  o1 22 (.bin false .eql (.t 21) (.k (.int .i64 0))) [21],
  o1 23 (.load (some 32) (.t 3)) [3],
  o1 24 (.mv (.t 2)) [2],
  o1 25 (.load (some 64) (.t 4)) [4],
  o1 26 (.call 48 [(.t 23), (.t 24), (.t 25)]) [23, 24, 25],
  o1 27 (.bin true .eql (.t 22) (.t 26)) [22, 26],
  o1 28 (.mv (.t 27)) [27],
  (⟨⟨(some 29), (some (28, true)), .mv (.t 7)⟩, 0, []⟩, []),
  (⟨⟨(some 30), (some (28, true)), .bin false .eql (.t 29) (.k (.int .i64 0))⟩, 0, []⟩, [29]),
  (⟨⟨(some 31), (some (28, true)), .mv (.t 30)⟩, 0, []⟩, [30]),
  (⟨⟨(some 32), (some (31, false)), .mv (.t 7)⟩, 0, []⟩, [7]),
  (⟨⟨(some 33), (some (31, false)), .bin false .eql (.t 32) (.k (.int .i64 9))⟩, 0, []⟩, [32]),
  (⟨⟨(some 34), (some (28, true)), .pick (.t 31) (.k (.bool true)) (.t 33)⟩, 0, []⟩, [31, 33]),
  o1 35 (.pick (.t 28) (.t 34) (.k (.bool false))) [28, 34],
  o1 6 (.mv (.t 35)) [35]]
/-- bosun/bosunlaw08.SignAny -/
@[reducible] def fSgAny : KCode := (.seq (.reg fSgAny_r0) (.seq (.seq (.reg fSgAny_r1) (.cond (.t 14) fSgAny_k0 (.kill [14] .skip))) (.keep [2, 3, 4] (.seq (.reg fSgAny_r3) (.seq (.reg fSgAny_r4) .ret)))))
@[reducible] def fSgAny_rs : List IRes := [.tmp 6]
theorem fSgAny_low : lowFunc Try.prog 10 [] [] = some ⟨fSgAny.bare, fSgAny_rs, 36⟩ := by kernel_rfl

end Go.Proofs.Ythgibibeoapfbaa
