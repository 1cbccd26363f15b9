/-
  Codes of functions.
-/
import Derived.Test.YthgibibeoapfbaaH1
import Derived.Test.YthgibibeoapfbaaRows
set_option linter.unusedSimpArgs false
set_option linter.unusedVariables false
set_option linter.unusedSectionVars false
namespace Go.Proofs.Ythgibibeoapfbaa
open Go.Fw
@[reducible] def fTParse_r0 : List (DOper × List Nat) := [
  o1 2 (.mv (.k (.list 1 ⟨true, true, false⟩ []))) [2],
  o1 3 (.mv (.k (.int .i64 0))) [3]]
@[reducible] def fTParse_r1 : List (DOper × List Nat) := [
  o1 4 (.mv (.k (.list 1 ⟨true, true, false⟩ []))) []]
@[reducible] def fTParse_r2 : List (DOper × List Nat) := [
  o1 5 (.mv (.k (.int .i64 0))) []]
@[reducible] def fTParse_r3 : List (DOper × List Nat) := [
  o1 8 (.mv (.t 0)) [],
  o1 9 (.len true (.t 8)) [8],
  o1 10 (.bin false .gtr (.t 9) (.k (.int .i64 0))) [9]]
@[reducible] def fTParse_r4 : List (DOper × List Nat) := [
  o1 11 (.mv (.t 0)) [],
  o1 12 (.len true (.t 11)) [11],
  o1 13 (.bin false .lss (.t 12) (.k (.int .i64 2))) [12]]
@[reducible] def fTParse_r5 : List (DOper × List Nat) := [
  o1 2 (.mv (.k (.list 1 ⟨true, true, false⟩ []))) [],
  o1 3 (.mv (.k (.int .i64 18))) []]
@[reducible] def fTParse_k0 : KCode := (.keep [] (.seq (.reg fTParse_r5) .ret))
@[reducible] def fTParse_r6 : List (DOper × List Nat) := [
  o1 14 (.mv (.t 0)) [],
  o2 15 1 (.idxS 1 (.t 14) (.k (.int .i64 0))) [14],
  o2 16 2 (.load none (.t 15)) [15],
  o2 17 3 (.convI .i64 (.t 16)) [16],
  o2 18 4 (.mv (.t 0)) [],
  o2 19 5 (.idxS 1 (.t 18) (.k (.int .i64 1))) [18],
  o2 20 6 (.load none (.t 19)) [19],
  o2 21 7 (.convI .i64 (.t 20)) [20],
  o2 6 8 (.mv (.t 17)) [17],
  o2 7 9 (.mv (.t 21)) [21]]
@[reducible] def fTParse_r7 : List (DOper × List Nat) := [
  o1 23 (.mv (.t 6)) [],
  o1 24 (.mv (.t 5)) [5],
  o1 25 (.bin false .leq (.t 23) (.t 24)) [23, 24],
  o1 22 (.mv (.t 25)) [25]]
@[reducible] def fTParse_r8 : List (DOper × List Nat) := [
  o1 2 (.mv (.k (.list 1 ⟨true, true, false⟩ []))) [],
  o1 3 (.mv (.k (.int .i64 7))) []]
@[reducible] def fTParse_r9 : List (DOper × List Nat) := [
  o1 27 (.mv (.t 7)) [],
  o1 28 (.bin false .gtr (.t 27) (.k (.int .i64 200))) [27],
  o1 29 (.mv (.t 28)) [28],
  (⟨⟨(some 30), (some (29, false)), .mv (.t 4)⟩, 0, []⟩, []),
  (⟨⟨(some 31), (some (29, false)), .len true (.t 30)⟩, 0, []⟩, [30]),
  (⟨⟨(some 32), (some (29, false)), .bin false .eql (.t 31) (.k (.int .i64 16))⟩, 0, []⟩, [31]),
  o1 33 (.pick (.t 29) (.k (.bool true)) (.t 32)) [29, 32],
  o1 26 (.mv (.t 33)) [33]]
@[reducible] def fTParse_r10 : List (DOper × List Nat) := [
  o1 2 (.mv (.k (.list 1 ⟨true, true, false⟩ []))) [],
  o1 3 (.mv (.k (.int .i64 17))) []]
@[reducible] def fTParse_r11 : List (DOper × List Nat) := [
  o1 35 (.mv (.t 0)) [],
  o1 36 (.len true (.t 35)) [35],
  o1 37 (.mv (.t 7)) [],
  o1 38 (.bin false .add (.k (.int .i64 2)) (.t 37)) [37],
  o1 39 (.bin false .lss (.t 36) (.t 38)) [36, 38],
  o1 34 (.mv (.t 39)) [39]]
@[reducible] def fTParse_r12 : List (DOper × List Nat) := [
  o1 2 (.mv (.k (.list 1 ⟨true, true, false⟩ []))) [],
  o1 3 (.mv (.k (.int .i64 18))) []]
@[reducible] def fTParse_k1 : KCode := (.keep [] (.seq (.reg fTParse_r12) .ret))
@[reducible] def fTParse_k2 : KCode := (.keep [] (.seq (.reg fTParse_r10) .ret))
@[reducible] def fTParse_k3 : KCode := (.kill [26] (.seq (.reg fTParse_r11) (.cond (.t 34) fTParse_k1 (.kill [34] .skip))))
@[reducible] def fTParse_k4 : KCode := (.keep [] (.seq (.reg fTParse_r8) .ret))
@[reducible] def fTParse_k5 : KCode := (.kill [22] (.seq (.reg fTParse_r9) (.cond (.t 26) fTParse_k2 fTParse_k3)))
@[reducible] def fTParse_r13 : List (DOper × List Nat) := [
  o1 40 (.mv (.t 4)) [4],
  o2 41 1 (.mv (.t 0)) [],
  o2 42 2 (.idxS 1 (.t 41) (.k (.int .i64 0))) [41],
  o2 43 3 (.load none (.t 42)) [42],
  o2 44 4 (.buildF 5 1 [] []) [],
  o2 45 5 (.mv (.t 0)) [],
  o2 46 6 (.mv (.t 7)) [],
  o2 47 7 (.bin false .add (.k (.int .i64 2)) (.t 46)) [46],
  o2 48 8 (.mv (.t 7)) [],
  o2 49 9 (.bin false .add (.k (.int .i64 2)) (.t 48)) [48],
  o2 50 10 (.slS 1 (.t 45) (some (.k (.int .i64 2))) (some (.t 47)) (some (.t 49))) [45, 47, 49],
  o2 51 11 (.appF 5 1 1 (.t 44) (.t 50)) [44, 50],
  o2 52 12 (.build [(.int .u8 0), (.list 1 ⟨true, true, false⟩ [])] [(0, 1, (.t 43)), (1, 1, (.t 51))]) [43, 51],
  o2 53 13 (.buildF 95 2 [(.int .u8 0), (.list 1 ⟨true, true, false⟩ [])] [(0, 2, (.t 52))]) [52],
  o2 54 14 (.appO 95 2 32 (.t 40) (.t 53)) [40, 53],
  o2 4 15 (.mv (.t 54)) [54]]
@[reducible] def fTParse_r14 : List (DOper × List Nat) := [
  o1 55 (.mv (.t 0)) [0],
  o1 56 (.mv (.t 7)) [7],
  o1 57 (.bin false .add (.k (.int .i64 2)) (.t 56)) [56],
  o1 58 (.slS 1 (.t 55) (some (.t 57)) none none) [55, 57],
  o1 59 (.mv (.t 6)) [6],
  o1 0 (.mv (.t 58)) [58],
  o1 5 (.mv (.t 59)) [59]]
/-- live: [0, 4, 5] -/
@[reducible] def fTParse_l6 : KCode := (.seq (.seq (.reg fTParse_r3) (.cond (.t 10) (.kill [10] .skip) (.keep [4] (.exit 0)))) (.kill [8, 9, 10] (.block 1 (.seq (.seq (.reg fTParse_r4) (.cond (.t 13) fTParse_k0 (.kill [13] .skip))) (.keep [0, 4, 5] (.seq (.draw fTParse_r6) (.seq (.block 2 (.seq (.reg fTParse_r7) (.cond (.t 22) fTParse_k4 fTParse_k5))) (.keep [0, 4, 6, 7] (.seq (.draw fTParse_r13) (.reg fTParse_r14))))))))))
@[reducible] def fTParse_r15 : List (DOper × List Nat) := [
  o1 60 (.mv (.t 4)) [4],
  o1 2 (.mv (.t 60)) [60],
  o1 3 (.mv (.k (.int .i64 0))) []]
/-- bosun/tlv.Parse -/
@[reducible] def fTParse : KCode := (.seq (.reg fTParse_r0) (.seq (.reg fTParse_r1) (.seq (.reg fTParse_r2) (.seq (.block 0 (.loop fTParse_l6)) (.keep [4] (.seq (.reg fTParse_r15) .ret))))))
@[reducible] def fTParse_rs : List IRes := [.tmp 2, .tmp 3]
theorem fTParse_low : lowFunc Try.prog 52 [(13, 11)] [] = some ⟨fTParse.bare, fTParse_rs, 61⟩ := by kernel_rfl

@[reducible] def fTRParse_r0 : List (DOper × List Nat) := [
  o1 2 (.mv (.k (.list 1 ⟨true, true, false⟩ []))) [2],
  o1 3 (.mv (.k (.int .i64 0))) [3]]
@[reducible] def fTRParse_r1 : List (DOper × List Nat) := [
  o1 4 (.mv (.k (.list 1 ⟨true, true, false⟩ []))) []]
@[reducible] def fTRParse_r2 : List (DOper × List Nat) := [
  o1 5 (.mv (.k (.int .i64 0))) []]
@[reducible] def fTRParse_r3 : List (DOper × List Nat) := [
  o1 7 (.mv (.t 5)) [],
  o1 8 (.mv (.t 0)) [],
  o1 9 (.len true (.t 8)) [8],
  o1 10 (.bin false .lss (.t 7) (.t 9)) [7, 9]]
@[reducible] def fTRParse_r4 : List (DOper × List Nat) := [
  o1 11 (.mv (.t 5)) [],
  o1 12 (.bin false .add (.t 11) (.k (.int .i64 1))) [11],
  o1 13 (.mv (.t 0)) [],
  o1 14 (.len true (.t 13)) [13],
  o1 15 (.bin false .eql (.t 12) (.t 14)) [12, 14]]
@[reducible] def fTRParse_r5 : List (DOper × List Nat) := [
  o1 2 (.mv (.k (.list 1 ⟨true, true, false⟩ []))) [],
  o1 3 (.mv (.k (.int .i64 18))) []]
@[reducible] def fTRParse_k0 : KCode := (.keep [] (.seq (.reg fTRParse_r5) .ret))
@[reducible] def fTRParse_r6 : List (DOper × List Nat) := [
  o1 16 (.mv (.t 0)) [],
  o1 17 (.mv (.t 5)) [],
  o1 18 (.bin false .add (.t 17) (.k (.int .i64 1))) [17],
  o1 19 (.idxS 1 (.t 16) (.t 18)) [16, 18],
  o1 20 (.load none (.t 19)) [19],
  o1 21 (.convI .i64 (.t 20)) [20],
  o1 6 (.mv (.t 21)) [21]]
@[reducible] def fTRParse_r7 : List (DOper × List Nat) := [
  o1 22 (.mv (.t 0)) [],
  o2 23 1 (.mv (.t 5)) [],
  o2 24 2 (.idxS 1 (.t 22) (.t 23)) [22, 23],
  o2 25 3 (.load none (.t 24)) [24],
  o2 26 4 (.bin false .eql (.t 25) (.k (.int .u8 0))) [25],
  o2 27 5 (.mv (.t 26)) [26],
  (⟨⟨(some 28), (some (27, false)), .mv (.t 4)⟩, 6, []⟩, []),
  (⟨⟨(some 29), (some (27, false)), .len true (.t 28)⟩, 7, []⟩, [28]),
  (⟨⟨(some 30), (some (27, false)), .bin false .gtr (.t 29) (.k (.int .i64 0))⟩, 8, []⟩, [29]),
  (⟨⟨(some 31), (some (27, false)), .mv (.t 30)⟩, 9, []⟩, [30]),
  (⟨⟨(some 32), (some (31, true)), .mv (.t 0)⟩, 10, []⟩, []),
  (⟨⟨(some 33), (some (31, true)), .mv (.t 5)⟩, 11, []⟩, []),
  (⟨⟨(some 34), (some (31, true)), .idxS 1 (.t 32) (.t 33)⟩, 12, []⟩, [32, 33]),
  (⟨⟨(some 35), (some (31, true)), .load none (.t 34)⟩, 13, []⟩, [34]),
  (⟨⟨(some 36), (some (31, true)), .mv (.t 4)⟩, 14, []⟩, []),
  (⟨⟨(some 37), (some (31, true)), .mv (.t 4)⟩, 15, []⟩, []),
  (⟨⟨(some 38), (some (31, true)), .len true (.t 37)⟩, 16, []⟩, [37]),
  (⟨⟨(some 39), (some (31, true)), .bin false .sub (.t 38) (.k (.int .i64 1))⟩, 17, []⟩, [38]),
  (⟨⟨(some 40), (some (31, true)), .idxS 2 (.t 36) (.t 39)⟩, 18, []⟩, [36, 39]),
  (⟨⟨(some 41), (some (31, true)), .fieldAddr 0 (.t 40)⟩, 19, []⟩, [40]),
  (⟨⟨(some 42), (some (31, true)), .load none (.t 41)⟩, 20, []⟩, [41]),
  (⟨⟨(some 43), (some (31, true)), .bin false .leq (.t 35) (.t 42)⟩, 21, []⟩, [35, 42]),
  (⟨⟨(some 44), (some (27, false)), .pick (.t 31) (.t 43) (.k (.bool false))⟩, 22, []⟩, [31, 43]),
  o2 45 23 (.pick (.t 27) (.k (.bool true)) (.t 44)) [27, 44]]
@[reducible] def fTRParse_r8 : List (DOper × List Nat) := [
  o1 2 (.mv (.k (.list 1 ⟨true, true, false⟩ []))) [],
  o1 3 (.mv (.k (.int .i64 7))) []]
@[reducible] def fTRParse_k1 : KCode := (.keep [] (.seq (.reg fTRParse_r8) .ret))
@[reducible] def fTRParse_r9 : List (DOper × List Nat) := [
  o1 46 (.mv (.t 6)) [],
  o1 47 (.bin false .gtr (.t 46) (.k (.int .i64 200))) [46],
  o1 48 (.mv (.t 47)) [47],
  (⟨⟨(some 49), (some (48, false)), .mv (.t 4)⟩, 0, []⟩, []),
  (⟨⟨(some 50), (some (48, false)), .len true (.t 49)⟩, 0, []⟩, [49]),
  (⟨⟨(some 51), (some (48, false)), .bin false .geq (.t 50) (.k (.int .i64 16))⟩, 0, []⟩, [50]),
  o1 52 (.pick (.t 48) (.k (.bool true)) (.t 51)) [48, 51]]
@[reducible] def fTRParse_r10 : List (DOper × List Nat) := [
  o1 2 (.mv (.k (.list 1 ⟨true, true, false⟩ []))) [],
  o1 3 (.mv (.k (.int .i64 17))) []]
@[reducible] def fTRParse_k2 : KCode := (.keep [] (.seq (.reg fTRParse_r10) .ret))
@[reducible] def fTRParse_r11 : List (DOper × List Nat) := [
  o1 53 (.mv (.t 5)) [],
  o1 54 (.bin false .add (.t 53) (.k (.int .i64 2))) [53],
  o1 55 (.mv (.t 6)) [],
  o1 56 (.bin false .add (.t 54) (.t 55)) [54, 55],
  o1 57 (.mv (.t 0)) [],
  o1 58 (.len true (.t 57)) [57],
  o1 59 (.bin false .gtr (.t 56) (.t 58)) [56, 58]]
@[reducible] def fTRParse_r12 : List (DOper × List Nat) := [
  o1 2 (.mv (.k (.list 1 ⟨true, true, false⟩ []))) [],
  o1 3 (.mv (.k (.int .i64 18))) []]
@[reducible] def fTRParse_k3 : KCode := (.keep [] (.seq (.reg fTRParse_r12) .ret))
@[reducible] def fTRParse_r13 : List (DOper × List Nat) := [
  o1 60 (.mv (.t 4)) [4],
  o2 61 1 (.mv (.t 0)) [],
  o2 62 2 (.mv (.t 5)) [],
  o2 63 3 (.idxS 1 (.t 61) (.t 62)) [61, 62],
  o2 64 4 (.load none (.t 63)) [63],
  o2 65 5 (.buildF 5 1 [] []) [],
  o2 66 6 (.mv (.t 0)) [],
  o2 67 7 (.mv (.t 5)) [],
  o2 68 8 (.bin false .add (.t 67) (.k (.int .i64 2))) [67],
  o2 69 9 (.mv (.t 5)) [],
  o2 70 10 (.bin false .add (.t 69) (.k (.int .i64 2))) [69],
  o2 71 11 (.mv (.t 6)) [],
  o2 72 12 (.bin false .add (.t 70) (.t 71)) [70, 71],
  o2 73 13 (.slS 1 (.t 66) (some (.t 68)) (some (.t 72)) none) [66, 68, 72],
  o2 74 14 (.appF 5 1 1 (.t 65) (.t 73)) [65, 73],
  o2 75 15 (.build [(.int .u8 0), (.list 1 ⟨true, true, false⟩ [])] [(0, 1, (.t 64)), (1, 1, (.t 74))]) [64, 74],
  o2 76 16 (.buildF 153 2 [(.int .u8 0), (.list 1 ⟨true, true, false⟩ [])] [(0, 2, (.t 75))]) [75],
  o2 77 17 (.appO 153 2 32 (.t 60) (.t 76)) [60, 76],
  o2 4 18 (.mv (.t 77)) [77]]
@[reducible] def fTRParse_r14 : List (DOper × List Nat) := [
  o1 78 (.mv (.t 5)) [5],
  o1 79 (.mv (.t 6)) [6],
  o1 80 (.bin false .add (.k (.int .i64 2)) (.t 79)) [79],
  o1 81 (.bin false .add (.t 78) (.t 80)) [78, 80],
  o1 5 (.mv (.t 81)) [81]]
/-- live: [0, 4, 5] -/
@[reducible] def fTRParse_l4 : KCode := (.seq (.seq (.reg fTRParse_r3) (.cond (.t 10) (.kill [10] .skip) (.keep [4] (.exit 0)))) (.keep [0, 4, 5] (.block 1 (.seq (.seq (.reg fTRParse_r4) (.cond (.t 15) fTRParse_k0 (.kill [15] .skip))) (.keep [0, 4, 5] (.seq (.reg fTRParse_r6) (.seq (.seq (.draw fTRParse_r7) (.cond (.t 45) fTRParse_k1 (.kill [45] .skip))) (.keep [0, 4, 5, 6] (.seq (.seq (.reg fTRParse_r9) (.cond (.t 52) fTRParse_k2 (.kill [52] .skip))) (.keep [0, 4, 5, 6] (.seq (.seq (.reg fTRParse_r11) (.cond (.t 59) fTRParse_k3 (.kill [59] .skip))) (.keep [0, 4, 5, 6] (.seq (.draw fTRParse_r13) (.reg fTRParse_r14))))))))))))))
@[reducible] def fTRParse_r15 : List (DOper × List Nat) := [
  o1 82 (.mv (.t 4)) [4],
  o1 2 (.mv (.t 82)) [82],
  o1 3 (.mv (.k (.int .i64 0))) []]
/-- bosun/bosunref11.Parse -/
@[reducible] def fTRParse : KCode := (.seq (.reg fTRParse_r0) (.seq (.reg fTRParse_r1) (.seq (.reg fTRParse_r2) (.seq (.block 0 (.loop fTRParse_l4)) (.keep [4] (.seq (.reg fTRParse_r15) .ret))))))
@[reducible] def fTRParse_rs : List IRes := [.tmp 2, .tmp 3]
theorem fTRParse_low : lowFunc Try.prog 56 [(13, 14)] [] = some ⟨fTRParse.bare, fTRParse_rs, 83⟩ := by kernel_rfl

@[reducible] def fTEncode_r0 : List (DOper × List Nat) := [
  o1 2 (.mv (.k (.list 1 ⟨true, true, false⟩ []))) [2],
  o1 3 (.mv (.k (.int .i64 0))) [3]]
@[reducible] def fTEncode_r1 : List (DOper × List Nat) := [
  o1 4 (.mv (.k (.list 1 ⟨true, true, false⟩ []))) []]
@[reducible] def fTEncode_r2 : List (DOper × List Nat) := [
  o1 5 (.mv (.k (.int .u8 0))) []]
@[reducible] def fTEncode_r3 : List (DOper × List Nat) := [
  o1 8 (.mv (.t 0)) [0],
  o1 9 (.len true (.t 8)) [],
  o1 10 (.mv (.k (.int .i64 0))) []]
@[reducible] def fTEncode_r4 : List (DOper × List Nat) := [
  o1 11 (.bin false .lss (.t 10) (.t 9)) []]
@[reducible] def fTEncode_r5 : List (DOper × List Nat) := [
  o1 12 (.mv (.t 10)) [],
  o1 13 (.idxS 2 (.t 8) (.t 10)) [],
  o1 14 (.load (some 2) (.t 13)) [13],
  o1 7 (.alloc 95 [(.int .u8 0), (.list 1 ⟨true, true, false⟩ [])]) [],
  o1 6 (.mv (.t 12)) [12],
  (⟨⟨none, none, .store 2 (.t 7) (.t 14)⟩, 0, []⟩, [14])]
@[reducible] def fTEncode_r6 : List (DOper × List Nat) := [
  o1 16 (.fieldAddr 0 (.t 7)) [],
  o1 17 (.load none (.t 16)) [16],
  o1 18 (.mv (.t 5)) [5],
  o1 19 (.bin false .leq (.t 17) (.t 18)) [17, 18],
  o1 15 (.mv (.t 19)) [19]]
@[reducible] def fTEncode_r7 : List (DOper × List Nat) := [
  o1 2 (.mv (.k (.list 1 ⟨true, true, false⟩ []))) [],
  o1 3 (.mv (.k (.int .i64 7))) []]
@[reducible] def fTEncode_r8 : List (DOper × List Nat) := [
  o1 21 (.fieldAddr 1 (.t 7)) [],
  o1 22 (.load none (.t 21)) [21],
  o1 23 (.len true (.t 22)) [22],
  o1 24 (.bin false .gtr (.t 23) (.k (.int .i64 200))) [23],
  o1 25 (.mv (.t 24)) [24],
  (⟨⟨(some 26), (some (25, false)), .mv (.t 6)⟩, 0, []⟩, [6]),
  (⟨⟨(some 27), (some (25, false)), .bin false .eql (.t 26) (.k (.int .i64 16))⟩, 0, []⟩, [26]),
  o1 28 (.pick (.t 25) (.k (.bool true)) (.t 27)) [25, 27],
  o1 20 (.mv (.t 28)) [28]]
@[reducible] def fTEncode_r9 : List (DOper × List Nat) := [
  o1 2 (.mv (.k (.list 1 ⟨true, true, false⟩ []))) [],
  o1 3 (.mv (.k (.int .i64 17))) []]
@[reducible] def fTEncode_k0 : KCode := (.keep [] (.seq (.reg fTEncode_r9) .ret))
@[reducible] def fTEncode_k1 : KCode := (.keep [] (.seq (.reg fTEncode_r7) .ret))
@[reducible] def fTEncode_k2 : KCode := (.kill [15] (.seq (.reg fTEncode_r8) (.cond (.t 20) fTEncode_k0 (.kill [20] .skip))))
@[reducible] def fTEncode_r10 : List (DOper × List Nat) := [
  o1 29 (.mv (.t 4)) [4],
  o2 30 1 (.fieldAddr 0 (.t 7)) [],
  o2 31 2 (.load none (.t 30)) [30],
  o2 32 3 (.fieldAddr 1 (.t 7)) [],
  o2 33 4 (.load none (.t 32)) [32],
  o2 34 5 (.len true (.t 33)) [33],
  o2 35 6 (.convI .u8 (.t 34)) [34],
  o2 36 7 (.buildF 5 1 [(.int .u8 0), (.int .u8 0)] [(0, 1, (.t 31)), (1, 1, (.t 35))]) [31, 35],
  o2 38 9 (.fieldAddr 1 (.t 7)) [],
  o2 39 10 (.load none (.t 38)) [38],
  (⟨⟨(some 37), none, .appO 5 1 1 (.t 29) (.t 36)⟩, 8, [10]⟩, [29, 36]),
  o2 40 11 (.appO 5 1 1 (.t 37) (.t 39)) [37, 39],
  o2 4 12 (.mv (.t 40)) [40]]
@[reducible] def fTEncode_r11 : List (DOper × List Nat) := [
  o1 41 (.fieldAddr 0 (.t 7)) [7],
  o1 42 (.load none (.t 41)) [41],
  o1 5 (.mv (.t 42)) [42]]
@[reducible] def fTEncode_r12 : List (DOper × List Nat) := [
  o1 43 (.bin false .add (.t 10) (.k (.int .i64 1))) [10],
  o1 10 (.mv (.t 43)) [43]]
/-- live: [4, 5, 8, 9, 10] -/
@[reducible] def fTEncode_l3 : KCode := (.seq (.reg fTEncode_r4) (.seq (.cond (.t 11) (.kill [11] .skip) (.keep [4] (.exit 0))) (.kill [11] (.seq (.block 1 (.seq (.reg fTEncode_r5) (.seq (.block 2 (.seq (.reg fTEncode_r6) (.cond (.t 15) fTEncode_k1 fTEncode_k2))) (.keep [4, 7, 8, 9, 10] (.seq (.draw fTEncode_r10) (.reg fTEncode_r11)))))) (.keep [4, 5, 8, 9, 10] (.reg fTEncode_r12))))))
@[reducible] def fTEncode_r13 : List (DOper × List Nat) := [
  o1 44 (.mv (.t 4)) [4],
  o1 2 (.mv (.t 44)) [44],
  o1 3 (.mv (.k (.int .i64 0))) []]
/-- bosun/tlv.Encode -/
@[reducible] def fTEncode : KCode := (.seq (.reg fTEncode_r0) (.seq (.reg fTEncode_r1) (.seq (.reg fTEncode_r2) (.seq (.seq (.reg fTEncode_r3) (.block 0 (.loop fTEncode_l3))) (.keep [4] (.seq (.reg fTEncode_r13) .ret))))))
@[reducible] def fTEncode_rs : List IRes := [.tmp 2, .tmp 3]
theorem fTEncode_low : lowFunc Try.prog 50 [] [(10, [0, 1, 2, 3, 4, 5, 6, 7, 9, 10, 8, 11, 12])] = some ⟨fTEncode.bare, fTEncode_rs, 45⟩ := by kernel_rfl

@[reducible] def fPLives_r0 : List (DOper × List Nat) := [
  o1 0 (.mv (.k (.bool false))) [0]]
@[reducible] def fPLives_r1 : List (DOper × List Nat) := [
  o1 5 (.build [(.int .u32 0), (.int .u8 0), (.int .u32 0), (.int .u32 0), (.int .u8 0), (.int .u8 0), (.int .u8 0), (.int .u8 0), (.int .u8 0), (.int .u8 0), (.int .u8 0), (.int .u8 0), (.int .u8 0), (.int .u8 0), (.int .u8 0), (.int .u8 0), (.int .u8 0), (.int .u8 0), (.int .u8 0), (.int .u8 0), (.int .u8 0), (.int .u8 0), (.int .u8 0), (.int .u8 0), (.int .u8 0), (.int .u8 0), (.int .u8 0), (.int .u8 0), (.int .u8 0), (.int .u8 0), (.int .u8 0), (.int .u8 0), (.int .u8 0), (.int .u8 0), (.int .u8 0), (.int .u8 0), (.int .u8 0), (.int .u8 0), (.int .u8 0), (.int .u8 0), (.int .u8 0), (.int .u8 0), (.int .u8 0), (.int .u8 0), (.int .u8 0), (.int .u8 0), (.int .u8 0), (.int .u8 0), (.int .u8 0), (.int .u8 0), (.int .u8 0), (.int .u8 0), (.int .u8 0), (.int .u8 0), (.int .u8 0), (.int .u8 0), (.int .u8 0), (.int .u8 0), (.int .u8 0), (.int .u8 0), (.int .u8 0), (.int .u8 0), (.int .u8 0), (.int .u8 0), (.int .u8 0), (.int .u8 0), (.int .u8 0), (.int .u8 0), (.int .u8 0), (.int .u8 0), (.int .u8 0), (.int .u8 0), (.int .u8 0), (.int .u8 0), (.int .u8 0), (.int .u8 0), (.int .u8 0), (.int .u8 0), (.int .u8 0), (.int .u8 0), (.int .u8 0), (.int .u8 0), (.int .u8 0), (.int .u8 0), (.int .u8 0), (.int .u8 0), (.int .u8 0), (.int .u8 0), (.int .u8 0), (.int .u8 0), (.int .u8 0), (.int .u8 0), (.int .u8 0), (.int .u8 0), (.int .u8 0), (.int .u8 0), (.int .u8 0), (.int .u8 0), (.int .u8 0), (.int .u8 0)] [(0, 1, (.k (.int .u32 7))), (3, 1, (.k (.int .u32 9)))]) [],
  o1 1 (.alloc 28 [(.int .u32 0), (.int .u8 0), (.int .u32 0), (.int .u32 0), (.int .u8 0), (.int .u8 0), (.int .u8 0), (.int .u8 0), (.int .u8 0), (.int .u8 0), (.int .u8 0), (.int .u8 0), (.int .u8 0), (.int .u8 0), (.int .u8 0), (.int .u8 0), (.int .u8 0), (.int .u8 0), (.int .u8 0), (.int .u8 0), (.int .u8 0), (.int .u8 0), (.int .u8 0), (.int .u8 0), (.int .u8 0), (.int .u8 0), (.int .u8 0), (.int .u8 0), (.int .u8 0), (.int .u8 0), (.int .u8 0), (.int .u8 0), (.int .u8 0), (.int .u8 0), (.int .u8 0), (.int .u8 0), (.int .u8 0), (.int .u8 0), (.int .u8 0), (.int .u8 0), (.int .u8 0), (.int .u8 0), (.int .u8 0), (.int .u8 0), (.int .u8 0), (.int .u8 0), (.int .u8 0), (.int .u8 0), (.int .u8 0), (.int .u8 0), (.int .u8 0), (.int .u8 0), (.int .u8 0), (.int .u8 0), (.int .u8 0), (.int .u8 0), (.int .u8 0), (.int .u8 0), (.int .u8 0), (.int .u8 0), (.int .u8 0), (.int .u8 0), (.int .u8 0), (.int .u8 0), (.int .u8 0), (.int .u8 0), (.int .u8 0), (.int .u8 0), (.int .u8 0), (.int .u8 0), (.int .u8 0), (.int .u8 0), (.int .u8 0), (.int .u8 0), (.int .u8 0), (.int .u8 0), (.int .u8 0), (.int .u8 0), (.int .u8 0), (.int .u8 0), (.int .u8 0), (.int .u8 0), (.int .u8 0), (.int .u8 0), (.int .u8 0), (.int .u8 0), (.int .u8 0), (.int .u8 0), (.int .u8 0), (.int .u8 0), (.int .u8 0), (.int .u8 0), (.int .u8 0), (.int .u8 0), (.int .u8 0), (.int .u8 0), (.int .u8 0), (.int .u8 0), (.int .u8 0), (.int .u8 0)]) [],
  (⟨⟨none, none, .store 100 (.t 1) (.t 5)⟩, 0, []⟩, [5])]
@[reducible] def fPLives_r2 : List (DOper × List Nat) := [
  o1 6 (.load (some 100) (.t 1)) [],
  o1 7 (.call 13 [(.t 6)]) [6],
  o1 2 (.mv (.t 7)) [7]]
@[reducible] def fPLives_r3 : List (DOper × List Nat) := [
  o1 9 (.mv (.t 2)) [],
  o1 10 (.call 14 [(.t 9)]) [9],
  o1 8 (.mv (.t 10)) [10],
  o1 11 (.extract 0 (.t 8)) [],
  o1 12 (.extract 1 (.t 8)) [8],
  o1 3 (.alloc 28 [(.int .u32 0), (.int .u8 0), (.int .u32 0), (.int .u32 0), (.int .u8 0), (.int .u8 0), (.int .u8 0), (.int .u8 0), (.int .u8 0), (.int .u8 0), (.int .u8 0), (.int .u8 0), (.int .u8 0), (.int .u8 0), (.int .u8 0), (.int .u8 0), (.int .u8 0), (.int .u8 0), (.int .u8 0), (.int .u8 0), (.int .u8 0), (.int .u8 0), (.int .u8 0), (.int .u8 0), (.int .u8 0), (.int .u8 0), (.int .u8 0), (.int .u8 0), (.int .u8 0), (.int .u8 0), (.int .u8 0), (.int .u8 0), (.int .u8 0), (.int .u8 0), (.int .u8 0), (.int .u8 0), (.int .u8 0), (.int .u8 0), (.int .u8 0), (.int .u8 0), (.int .u8 0), (.int .u8 0), (.int .u8 0), (.int .u8 0), (.int .u8 0), (.int .u8 0), (.int .u8 0), (.int .u8 0), (.int .u8 0), (.int .u8 0), (.int .u8 0), (.int .u8 0), (.int .u8 0), (.int .u8 0), (.int .u8 0), (.int .u8 0), (.int .u8 0), (.int .u8 0), (.int .u8 0), (.int .u8 0), (.int .u8 0), (.int .u8 0), (.int .u8 0), (.int .u8 0), (.int .u8 0), (.int .u8 0), (.int .u8 0), (.int .u8 0), (.int .u8 0), (.int .u8 0), (.int .u8 0), (.int .u8 0), (.int .u8 0), (.int .u8 0), (.int .u8 0), (.int .u8 0), (.int .u8 0), (.int .u8 0), (.int .u8 0), (.int .u8 0), (.int .u8 0), (.int .u8 0), (.int .u8 0), (.int .u8 0), (.int .u8 0), (.int .u8 0), (.int .u8 0), (.int .u8 0), (.int .u8 0), (.int .u8 0), (.int .u8 0), (.int .u8 0), (.int .u8 0), (.int .u8 0), (.int .u8 0), (.int .u8 0), (.int .u8 0), (.int .u8 0), (.int .u8 0), (.int .u8 0)]) [],
  (⟨⟨none, none, .store 100 (.t 3) (.t 11)⟩, 0, []⟩, [11]),
  o1 4 (.mv (.t 12)) [12]]
@[reducible] def fPLives_r4 : List (DOper × List Nat) := [
  o1 13 (.mv (.t 2)) [2],
  o1 14 (.len true (.t 13)) [13],
  o1 15 (.bin false .eql (.t 14) (.k (.int .i64 121))) [14],
  o1 16 (.mv (.t 15)) [15],
  (⟨⟨(some 17), (some (16, true)), .load (some 100) (.t 1)⟩, 0, []⟩, []),
  (⟨⟨(some 18), (some (16, true)), .call 17 [(.t 17)]⟩, 0, []⟩, [17]),
  (⟨⟨(some 19), (some (16, true)), .len true (.t 18)⟩, 0, []⟩, [18]),
  (⟨⟨(some 20), (some (16, true)), .bin false .eql (.t 19) (.k (.int .i64 55))⟩, 0, []⟩, [19]),
  o1 21 (.pick (.t 16) (.t 20) (.k (.bool false))) [16, 20],
  o1 22 (.mv (.t 21)) [21],
  (⟨⟨(some 23), (some (22, true)), .mv (.t 4)⟩, 0, []⟩, [4]),
  (⟨⟨(some 24), (some (22, true)), .bin false .eql (.t 23) (.k (.int .i64 0))⟩, 0, []⟩, [23]),
  o1 25 (.pick (.t 22) (.t 24) (.k (.bool false))) [22, 24],
  o1 26 (.mv (.t 25)) [25],
  (⟨⟨(some 27), (some (26, true)), .load (some 100) (.t 3)⟩, 0, []⟩, [3]),
  (⟨⟨(some 28), (some (26, true)), .load (some 100) (.t 1)⟩, 0, []⟩, [1]),
  (⟨⟨(some 29), (some (26, true)), .eqA false [.u32, .u8, .u32, .u32, .u8, .u8, .u8, .u8, .u8, .u8, .u8, .u8, .u8, .u8, .u8, .u8, .u8, .u8, .u8, .u8, .u8, .u8, .u8, .u8, .u8, .u8, .u8, .u8, .u8, .u8, .u8, .u8, .u8, .u8, .u8, .u8, .u8, .u8, .u8, .u8, .u8, .u8, .u8, .u8, .u8, .u8, .u8, .u8, .u8, .u8, .u8, .u8, .u8, .u8, .u8, .u8, .u8, .u8, .u8, .u8, .u8, .u8, .u8, .u8, .u8, .u8, .u8, .u8, .u8, .u8, .u8, .u8, .u8, .u8, .u8, .u8, .u8, .u8, .u8, .u8, .u8, .u8, .u8, .u8, .u8, .u8, .u8, .u8, .u8, .u8, .u8, .u8, .u8, .u8, .u8, .u8, .u8, .u8, .u8, .u8] (.t 27) (.t 28)⟩, 0, []⟩, [27, 28]),
  o1 30 (.pick (.t 26) (.t 29) (.k (.bool false))) [26, 29],
  o1 0 (.mv (.t 30)) [30]]
/-- bosun/bosunlaw12.lives -/
@[reducible] def fPLives : KCode := (.seq (.reg fPLives_r0) (.seq (.reg fPLives_r1) (.seq (.reg fPLives_r2) (.seq (.reg fPLives_r3) (.seq (.reg fPLives_r4) .ret)))))
@[reducible] def fPLives_rs : List IRes := [.tmp 0]
theorem fPLives_low : lowFunc Try.prog 12 [] [] = some ⟨fPLives.bare, fPLives_rs, 31⟩ := by kernel_rfl

@[reducible] def fPEncode_r0 : List (DOper × List Nat) := [
  o1 1 (.box 28 (.t 0)) [0],
  o1 2 (.mv (.k (.list 1 ⟨true, true, false⟩ []))) [2]]
@[reducible] def fPEncode_r1 : List (DOper × List Nat) := [
  o1 6 (.load (some 100) (.t 1)) [],
  o2 8 2 (.fieldAddr 36 (.t 1)) [1],
  o2 9 3 (.slA 1 64 (.t 8) none none none) [8],
  o2 10 4 (.build [(.int .u8 0), (.list 1 ⟨true, true, false⟩ [])] [(0, 1, (.k (.int .u8 6))), (1, 1, (.t 9))]) [9],
  o2 11 5 (.buildF 95 2 [(.int .u8 0), (.list 1 ⟨true, true, false⟩ [])] [(0, 2, (.t 10))]) [10],
  (⟨⟨(some 7), none, .call 51 [(.t 6)]⟩, 1, [3]⟩, [6]),
  o2 12 6 (.appO 95 2 32 (.t 7) (.t 11)) [7, 11],
  o2 13 7 (.call 50 [(.t 12)]) [12],
  o2 5 8 (.mv (.t 13)) [13],
  o2 14 9 (.extract 0 (.t 5)) [],
  o2 15 10 (.extract 1 (.t 5)) [5],
  o2 3 11 (.mv (.t 14)) [14],
  o2 4 12 (.mv (.t 15)) [4, 15]]
@[reducible] def fPEncode_r2 : List (DOper × List Nat) := [
  o1 16 (.mv (.t 3)) [3],
  o1 2 (.mv (.t 16)) [16]]
/-- (bosun/packet.Packet).Encode -/
@[reducible] def fPEncode : KCode := (.seq (.reg fPEncode_r0) (.seq (.draw fPEncode_r1) (.seq (.reg fPEncode_r2) .ret)))
@[reducible] def fPEncode_rs : List IRes := [.tmp 2]
theorem fPEncode_low : lowFunc Try.prog 13 [] [(1, [0, 2, 3, 4, 5, 1, 6, 7, 8, 9, 10, 11, 12])] = some ⟨fPEncode.bare, fPEncode_rs, 17⟩ := by kernel_rfl

@[reducible] def fPParse_r0 : List (DOper × List Nat) := [
  o1 2 (.alloc 28 [(.int .u32 0), (.int .u8 0), (.int .u32 0), (.int .u32 0), (.int .u8 0), (.int .u8 0), (.int .u8 0), (.int .u8 0), (.int .u8 0), (.int .u8 0), (.int .u8 0), (.int .u8 0), (.int .u8 0), (.int .u8 0), (.int .u8 0), (.int .u8 0), (.int .u8 0), (.int .u8 0), (.int .u8 0), (.int .u8 0), (.int .u8 0), (.int .u8 0), (.int .u8 0), (.int .u8 0), (.int .u8 0), (.int .u8 0), (.int .u8 0), (.int .u8 0), (.int .u8 0), (.int .u8 0), (.int .u8 0), (.int .u8 0), (.int .u8 0), (.int .u8 0), (.int .u8 0), (.int .u8 0), (.int .u8 0), (.int .u8 0), (.int .u8 0), (.int .u8 0), (.int .u8 0), (.int .u8 0), (.int .u8 0), (.int .u8 0), (.int .u8 0), (.int .u8 0), (.int .u8 0), (.int .u8 0), (.int .u8 0), (.int .u8 0), (.int .u8 0), (.int .u8 0), (.int .u8 0), (.int .u8 0), (.int .u8 0), (.int .u8 0), (.int .u8 0), (.int .u8 0), (.int .u8 0), (.int .u8 0), (.int .u8 0), (.int .u8 0), (.int .u8 0), (.int .u8 0), (.int .u8 0), (.int .u8 0), (.int .u8 0), (.int .u8 0), (.int .u8 0), (.int .u8 0), (.int .u8 0), (.int .u8 0), (.int .u8 0), (.int .u8 0), (.int .u8 0), (.int .u8 0), (.int .u8 0), (.int .u8 0), (.int .u8 0), (.int .u8 0), (.int .u8 0), (.int .u8 0), (.int .u8 0), (.int .u8 0), (.int .u8 0), (.int .u8 0), (.int .u8 0), (.int .u8 0), (.int .u8 0), (.int .u8 0), (.int .u8 0), (.int .u8 0), (.int .u8 0), (.int .u8 0), (.int .u8 0), (.int .u8 0), (.int .u8 0), (.int .u8 0), (.int .u8 0), (.int .u8 0)]) [],
  o1 3 (.mv (.k (.int .i64 0))) [3]]
@[reducible] def fPParse_r1 : List (DOper × List Nat) := [
  o1 9 (.mv (.t 0)) [],
  o1 10 (.len true (.t 9)) [9],
  o1 11 (.bin false .gtr (.t 10) (.k (.int .i64 128))) [10]]
@[reducible] def fPParse_r2 : List (DOper × List Nat) := [
  o1 12 (.build [(.int .u32 0), (.int .u8 0), (.int .u32 0), (.int .u32 0), (.int .u8 0), (.int .u8 0), (.int .u8 0), (.int .u8 0), (.int .u8 0), (.int .u8 0), (.int .u8 0), (.int .u8 0), (.int .u8 0), (.int .u8 0), (.int .u8 0), (.int .u8 0), (.int .u8 0), (.int .u8 0), (.int .u8 0), (.int .u8 0), (.int .u8 0), (.int .u8 0), (.int .u8 0), (.int .u8 0), (.int .u8 0), (.int .u8 0), (.int .u8 0), (.int .u8 0), (.int .u8 0), (.int .u8 0), (.int .u8 0), (.int .u8 0), (.int .u8 0), (.int .u8 0), (.int .u8 0), (.int .u8 0), (.int .u8 0), (.int .u8 0), (.int .u8 0), (.int .u8 0), (.int .u8 0), (.int .u8 0), (.int .u8 0), (.int .u8 0), (.int .u8 0), (.int .u8 0), (.int .u8 0), (.int .u8 0), (.int .u8 0), (.int .u8 0), (.int .u8 0), (.int .u8 0), (.int .u8 0), (.int .u8 0), (.int .u8 0), (.int .u8 0), (.int .u8 0), (.int .u8 0), (.int .u8 0), (.int .u8 0), (.int .u8 0), (.int .u8 0), (.int .u8 0), (.int .u8 0), (.int .u8 0), (.int .u8 0), (.int .u8 0), (.int .u8 0), (.int .u8 0), (.int .u8 0), (.int .u8 0), (.int .u8 0), (.int .u8 0), (.int .u8 0), (.int .u8 0), (.int .u8 0), (.int .u8 0), (.int .u8 0), (.int .u8 0), (.int .u8 0), (.int .u8 0), (.int .u8 0), (.int .u8 0), (.int .u8 0), (.int .u8 0), (.int .u8 0), (.int .u8 0), (.int .u8 0), (.int .u8 0), (.int .u8 0), (.int .u8 0), (.int .u8 0), (.int .u8 0), (.int .u8 0), (.int .u8 0), (.int .u8 0), (.int .u8 0), (.int .u8 0), (.int .u8 0), (.int .u8 0)] []) [],
  (⟨⟨none, none, .store 100 (.t 2) (.t 12)⟩, 0, []⟩, [12]),
  o1 3 (.mv (.k (.int .i64 17))) []]
@[reducible] def fPParse_k0 : KCode := (.keep [2] (.seq (.reg fPParse_r2) .ret))
@[reducible] def fPParse_r3 : List (DOper × List Nat) := [
  o1 14 (.mv (.t 0)) [0],
  o1 15 (.call 52 [(.t 14)]) [14],
  o1 13 (.mv (.t 15)) [15],
  o1 16 (.extract 0 (.t 13)) [],
  o1 17 (.extract 1 (.t 13)) [13],
  o1 4 (.mv (.t 16)) [16],
  o1 5 (.mv (.t 17)) [17]]
@[reducible] def fPParse_r4 : List (DOper × List Nat) := [
  o1 18 (.mv (.t 5)) [],
  o1 19 (.bin false .neq (.t 18) (.k (.int .i64 0))) [18]]
@[reducible] def fPParse_r5 : List (DOper × List Nat) := [
  o1 20 (.build [(.int .u32 0), (.int .u8 0), (.int .u32 0), (.int .u32 0), (.int .u8 0), (.int .u8 0), (.int .u8 0), (.int .u8 0), (.int .u8 0), (.int .u8 0), (.int .u8 0), (.int .u8 0), (.int .u8 0), (.int .u8 0), (.int .u8 0), (.int .u8 0), (.int .u8 0), (.int .u8 0), (.int .u8 0), (.int .u8 0), (.int .u8 0), (.int .u8 0), (.int .u8 0), (.int .u8 0), (.int .u8 0), (.int .u8 0), (.int .u8 0), (.int .u8 0), (.int .u8 0), (.int .u8 0), (.int .u8 0), (.int .u8 0), (.int .u8 0), (.int .u8 0), (.int .u8 0), (.int .u8 0), (.int .u8 0), (.int .u8 0), (.int .u8 0), (.int .u8 0), (.int .u8 0), (.int .u8 0), (.int .u8 0), (.int .u8 0), (.int .u8 0), (.int .u8 0), (.int .u8 0), (.int .u8 0), (.int .u8 0), (.int .u8 0), (.int .u8 0), (.int .u8 0), (.int .u8 0), (.int .u8 0), (.int .u8 0), (.int .u8 0), (.int .u8 0), (.int .u8 0), (.int .u8 0), (.int .u8 0), (.int .u8 0), (.int .u8 0), (.int .u8 0), (.int .u8 0), (.int .u8 0), (.int .u8 0), (.int .u8 0), (.int .u8 0), (.int .u8 0), (.int .u8 0), (.int .u8 0), (.int .u8 0), (.int .u8 0), (.int .u8 0), (.int .u8 0), (.int .u8 0), (.int .u8 0), (.int .u8 0), (.int .u8 0), (.int .u8 0), (.int .u8 0), (.int .u8 0), (.int .u8 0), (.int .u8 0), (.int .u8 0), (.int .u8 0), (.int .u8 0), (.int .u8 0), (.int .u8 0), (.int .u8 0), (.int .u8 0), (.int .u8 0), (.int .u8 0), (.int .u8 0), (.int .u8 0), (.int .u8 0), (.int .u8 0), (.int .u8 0), (.int .u8 0), (.int .u8 0)] []) [],
  o1 21 (.mv (.t 5)) [5],
  (⟨⟨none, none, .store 100 (.t 2) (.t 20)⟩, 0, []⟩, [20]),
  o1 3 (.mv (.t 21)) [21]]
@[reducible] def fPParse_k1 : KCode := (.kill [4, 19] (.seq (.reg fPParse_r5) .ret))
@[reducible] def fPParse_r6 : List (DOper × List Nat) := [
  o1 22 (.buildF 3 1 [(.int .i64 0), (.int .i64 0), (.int .i64 0), (.int .i64 0), (.int .i64 0), (.int .i64 0)] [(0, 1, (.k (.int .i64 4))), (1, 1, (.k (.int .i64 1))), (2, 1, (.k (.int .i64 4))), (3, 1, (.k (.int .i64 4))), (4, 1, (.k (.int .i64 32))), (5, 1, (.k (.int .i64 64)))]) [],
  o1 6 (.mv (.t 22)) [22]]
@[reducible] def fPParse_r7 : List (DOper × List Nat) := [
  o1 23 (.mv (.t 4)) [],
  o1 24 (.len true (.t 23)) [23],
  o1 25 (.mv (.t 6)) [],
  o1 26 (.len true (.t 25)) [25],
  o1 27 (.bin false .neq (.t 24) (.t 26)) [24, 26]]
@[reducible] def fPParse_r8 : List (DOper × List Nat) := [
  o1 28 (.build [(.int .u32 0), (.int .u8 0), (.int .u32 0), (.int .u32 0), (.int .u8 0), (.int .u8 0), (.int .u8 0), (.int .u8 0), (.int .u8 0), (.int .u8 0), (.int .u8 0), (.int .u8 0), (.int .u8 0), (.int .u8 0), (.int .u8 0), (.int .u8 0), (.int .u8 0), (.int .u8 0), (.int .u8 0), (.int .u8 0), (.int .u8 0), (.int .u8 0), (.int .u8 0), (.int .u8 0), (.int .u8 0), (.int .u8 0), (.int .u8 0), (.int .u8 0), (.int .u8 0), (.int .u8 0), (.int .u8 0), (.int .u8 0), (.int .u8 0), (.int .u8 0), (.int .u8 0), (.int .u8 0), (.int .u8 0), (.int .u8 0), (.int .u8 0), (.int .u8 0), (.int .u8 0), (.int .u8 0), (.int .u8 0), (.int .u8 0), (.int .u8 0), (.int .u8 0), (.int .u8 0), (.int .u8 0), (.int .u8 0), (.int .u8 0), (.int .u8 0), (.int .u8 0), (.int .u8 0), (.int .u8 0), (.int .u8 0), (.int .u8 0), (.int .u8 0), (.int .u8 0), (.int .u8 0), (.int .u8 0), (.int .u8 0), (.int .u8 0), (.int .u8 0), (.int .u8 0), (.int .u8 0), (.int .u8 0), (.int .u8 0), (.int .u8 0), (.int .u8 0), (.int .u8 0), (.int .u8 0), (.int .u8 0), (.int .u8 0), (.int .u8 0), (.int .u8 0), (.int .u8 0), (.int .u8 0), (.int .u8 0), (.int .u8 0), (.int .u8 0), (.int .u8 0), (.int .u8 0), (.int .u8 0), (.int .u8 0), (.int .u8 0), (.int .u8 0), (.int .u8 0), (.int .u8 0), (.int .u8 0), (.int .u8 0), (.int .u8 0), (.int .u8 0), (.int .u8 0), (.int .u8 0), (.int .u8 0), (.int .u8 0), (.int .u8 0), (.int .u8 0), (.int .u8 0), (.int .u8 0)] []) [],
  (⟨⟨none, none, .store 100 (.t 2) (.t 28)⟩, 0, []⟩, [28]),
  o1 3 (.mv (.k (.int .i64 7))) []]
@[reducible] def fPParse_k2 : KCode := (.keep [2] (.seq (.reg fPParse_r8) .ret))
@[reducible] def fPParse_r9 : List (DOper × List Nat) := [
  o1 29 (.mv (.t 4)) [],
  o1 30 (.len true (.t 29)) [],
  o1 31 (.mv (.k (.int .i64 0))) []]
@[reducible] def fPParse_r10 : List (DOper × List Nat) := [
  o1 32 (.bin false .lss (.t 31) (.t 30)) []]
@[reducible] def fPParse_k3 : KCode := (.keep [2, 4] (.exit 0))
@[reducible] def fPParse_r11 : List (DOper × List Nat) := [
  o1 33 (.mv (.t 31)) [],
  o1 34 (.idxS 2 (.t 29) (.t 31)) [],
  o1 35 (.load (some 2) (.t 34)) [34],
  o1 8 (.alloc 95 [(.int .u8 0), (.list 1 ⟨true, true, false⟩ [])]) [],
  o1 7 (.mv (.t 33)) [33],
  (⟨⟨none, none, .store 2 (.t 8) (.t 35)⟩, 0, []⟩, [35])]
@[reducible] def fPParse_r12 : List (DOper × List Nat) := [
  o1 36 (.fieldAddr 0 (.t 8)) [],
  o2 37 1 (.load none (.t 36)) [36],
  o2 38 2 (.convI .i64 (.t 37)) [37],
  o2 39 3 (.mv (.t 7)) [],
  o2 40 4 (.bin false .add (.t 39) (.k (.int .i64 1))) [39],
  o2 41 5 (.bin false .neq (.t 38) (.t 40)) [38, 40],
  o2 42 6 (.mv (.t 41)) [41],
  (⟨⟨(some 43), (some (42, false)), .fieldAddr 1 (.t 8)⟩, 7, []⟩, [8]),
  (⟨⟨(some 44), (some (42, false)), .load none (.t 43)⟩, 8, []⟩, [43]),
  (⟨⟨(some 45), (some (42, false)), .len true (.t 44)⟩, 9, []⟩, [44]),
  (⟨⟨(some 46), (some (42, false)), .mv (.t 6)⟩, 10, []⟩, []),
  (⟨⟨(some 47), (some (42, false)), .mv (.t 7)⟩, 11, []⟩, [7]),
  (⟨⟨(some 48), (some (42, false)), .idxS 1 (.t 46) (.t 47)⟩, 12, []⟩, [46, 47]),
  (⟨⟨(some 49), (some (42, false)), .load none (.t 48)⟩, 13, []⟩, [48]),
  (⟨⟨(some 50), (some (42, false)), .bin false .neq (.t 45) (.t 49)⟩, 14, []⟩, [45, 49]),
  o2 51 15 (.pick (.t 42) (.k (.bool true)) (.t 50)) [42, 50]]
@[reducible] def fPParse_r13 : List (DOper × List Nat) := [
  o1 52 (.build [(.int .u32 0), (.int .u8 0), (.int .u32 0), (.int .u32 0), (.int .u8 0), (.int .u8 0), (.int .u8 0), (.int .u8 0), (.int .u8 0), (.int .u8 0), (.int .u8 0), (.int .u8 0), (.int .u8 0), (.int .u8 0), (.int .u8 0), (.int .u8 0), (.int .u8 0), (.int .u8 0), (.int .u8 0), (.int .u8 0), (.int .u8 0), (.int .u8 0), (.int .u8 0), (.int .u8 0), (.int .u8 0), (.int .u8 0), (.int .u8 0), (.int .u8 0), (.int .u8 0), (.int .u8 0), (.int .u8 0), (.int .u8 0), (.int .u8 0), (.int .u8 0), (.int .u8 0), (.int .u8 0), (.int .u8 0), (.int .u8 0), (.int .u8 0), (.int .u8 0), (.int .u8 0), (.int .u8 0), (.int .u8 0), (.int .u8 0), (.int .u8 0), (.int .u8 0), (.int .u8 0), (.int .u8 0), (.int .u8 0), (.int .u8 0), (.int .u8 0), (.int .u8 0), (.int .u8 0), (.int .u8 0), (.int .u8 0), (.int .u8 0), (.int .u8 0), (.int .u8 0), (.int .u8 0), (.int .u8 0), (.int .u8 0), (.int .u8 0), (.int .u8 0), (.int .u8 0), (.int .u8 0), (.int .u8 0), (.int .u8 0), (.int .u8 0), (.int .u8 0), (.int .u8 0), (.int .u8 0), (.int .u8 0), (.int .u8 0), (.int .u8 0), (.int .u8 0), (.int .u8 0), (.int .u8 0), (.int .u8 0), (.int .u8 0), (.int .u8 0), (.int .u8 0), (.int .u8 0), (.int .u8 0), (.int .u8 0), (.int .u8 0), (.int .u8 0), (.int .u8 0), (.int .u8 0), (.int .u8 0), (.int .u8 0), (.int .u8 0), (.int .u8 0), (.int .u8 0), (.int .u8 0), (.int .u8 0), (.int .u8 0), (.int .u8 0), (.int .u8 0), (.int .u8 0), (.int .u8 0)] []) [],
  (⟨⟨none, none, .store 100 (.t 2) (.t 52)⟩, 0, []⟩, [52]),
  o1 3 (.mv (.k (.int .i64 7))) []]
@[reducible] def fPParse_k4 : KCode := (.keep [2] (.seq (.reg fPParse_r13) .ret))
@[reducible] def fPParse_r14 : List (DOper × List Nat) := [
  o1 53 (.bin false .add (.t 31) (.k (.int .i64 1))) [31],
  o1 31 (.mv (.t 53)) [53]]
/-- live: [2, 4, 6, 29, 30, 31] -/
@[reducible] def fPParse_l5 : KCode := (.seq (.reg fPParse_r10) (.seq (.cond (.t 32) (.kill [32] .skip) fPParse_k3) (.kill [32] (.seq (.block 1 (.seq (.reg fPParse_r11) (.seq (.draw fPParse_r12) (.cond (.t 51) fPParse_k4 (.kill [51] .skip))))) (.keep [2, 4, 6, 29, 30, 31] (.reg fPParse_r14))))))
@[reducible] def fPParse_r15 : List (DOper × List Nat) := [
  o1 54 (.mv (.t 4)) [],
  o2 55 1 (.idxS 2 (.t 54) (.k (.int .i64 0))) [54],
  o2 56 2 (.fieldAddr 1 (.t 55)) [55],
  o2 57 3 (.load none (.t 56)) [56],
  o2 59 5 (.mv (.t 4)) [],
  o2 60 6 (.idxS 2 (.t 59) (.k (.int .i64 1))) [59],
  o2 61 7 (.fieldAddr 1 (.t 60)) [60],
  o2 62 8 (.load none (.t 61)) [61],
  o2 63 9 (.idxS 1 (.t 62) (.k (.int .i64 0))) [62],
  o2 64 10 (.load none (.t 63)) [63],
  o2 65 11 (.mv (.t 4)) [],
  o2 66 12 (.idxS 2 (.t 65) (.k (.int .i64 2))) [65],
  o2 67 13 (.fieldAddr 1 (.t 66)) [66],
  o2 68 14 (.load none (.t 67)) [67],
  o2 70 16 (.mv (.t 4)) [],
  o2 71 17 (.idxS 2 (.t 70) (.k (.int .i64 3))) [70],
  o2 72 18 (.fieldAddr 1 (.t 71)) [71],
  o2 73 19 (.load none (.t 72)) [72],
  o2 75 21 (.mv (.t 4)) [],
  o2 76 22 (.idxS 2 (.t 75) (.k (.int .i64 4))) [75],
  o2 77 23 (.fieldAddr 1 (.t 76)) [76],
  o2 78 24 (.load none (.t 77)) [77],
  o2 79 25 (.s2a 32 1 (.t 78)) [78],
  o2 80 26 (.load (some 32) (.t 79)) [79],
  o2 81 27 (.mv (.t 4)) [4],
  o2 82 28 (.idxS 2 (.t 81) (.k (.int .i64 5))) [81],
  o2 83 29 (.fieldAddr 1 (.t 82)) [82],
  o2 84 30 (.load none (.t 83)) [83],
  o2 85 31 (.s2a 64 1 (.t 84)) [84],
  o2 86 32 (.load (some 64) (.t 85)) [85],
  (⟨⟨(some 58), none, .call 53 [(.t 57)]⟩, 4, [32, 30, 26, 24, 19, 14, 10, 8]⟩, [57]),
  (⟨⟨(some 69), none, .call 53 [(.t 68)]⟩, 15, [32, 30, 26, 24, 19, 10, 8]⟩, [68]),
  (⟨⟨(some 74), none, .call 53 [(.t 73)]⟩, 20, [32, 30, 26, 24, 10, 8]⟩, [73]),
  o2 87 33 (.build [(.int .u32 0), (.int .u8 0), (.int .u32 0), (.int .u32 0), (.int .u8 0), (.int .u8 0), (.int .u8 0), (.int .u8 0), (.int .u8 0), (.int .u8 0), (.int .u8 0), (.int .u8 0), (.int .u8 0), (.int .u8 0), (.int .u8 0), (.int .u8 0), (.int .u8 0), (.int .u8 0), (.int .u8 0), (.int .u8 0), (.int .u8 0), (.int .u8 0), (.int .u8 0), (.int .u8 0), (.int .u8 0), (.int .u8 0), (.int .u8 0), (.int .u8 0), (.int .u8 0), (.int .u8 0), (.int .u8 0), (.int .u8 0), (.int .u8 0), (.int .u8 0), (.int .u8 0), (.int .u8 0), (.int .u8 0), (.int .u8 0), (.int .u8 0), (.int .u8 0), (.int .u8 0), (.int .u8 0), (.int .u8 0), (.int .u8 0), (.int .u8 0), (.int .u8 0), (.int .u8 0), (.int .u8 0), (.int .u8 0), (.int .u8 0), (.int .u8 0), (.int .u8 0), (.int .u8 0), (.int .u8 0), (.int .u8 0), (.int .u8 0), (.int .u8 0), (.int .u8 0), (.int .u8 0), (.int .u8 0), (.int .u8 0), (.int .u8 0), (.int .u8 0), (.int .u8 0), (.int .u8 0), (.int .u8 0), (.int .u8 0), (.int .u8 0), (.int .u8 0), (.int .u8 0), (.int .u8 0), (.int .u8 0), (.int .u8 0), (.int .u8 0), (.int .u8 0), (.int .u8 0), (.int .u8 0), (.int .u8 0), (.int .u8 0), (.int .u8 0), (.int .u8 0), (.int .u8 0), (.int .u8 0), (.int .u8 0), (.int .u8 0), (.int .u8 0), (.int .u8 0), (.int .u8 0), (.int .u8 0), (.int .u8 0), (.int .u8 0), (.int .u8 0), (.int .u8 0), (.int .u8 0), (.int .u8 0), (.int .u8 0), (.int .u8 0), (.int .u8 0), (.int .u8 0), (.int .u8 0)] [(0, 1, (.t 58)), (1, 1, (.t 64)), (2, 1, (.t 69)), (3, 1, (.t 74)), (4, 32, (.t 80)), (36, 64, (.t 86))]) [58, 64, 69, 74, 80, 86],
  (⟨⟨none, none, .store 100 (.t 2) (.t 87)⟩, 34, []⟩, [87]),
  o2 3 35 (.mv (.k (.int .i64 0))) []]
/-- bosun/packet.Parse -/
@[reducible] def fPParse : KCode := (.seq (.reg fPParse_r0) (.seq (.seq (.reg fPParse_r1) (.cond (.t 11) fPParse_k0 (.kill [11] .skip))) (.keep [0, 2] (.seq (.reg fPParse_r3) (.seq (.seq (.reg fPParse_r4) (.cond (.t 19) fPParse_k1 (.kill [5, 19] .skip))) (.keep [2, 4] (.seq (.reg fPParse_r6) (.seq (.seq (.reg fPParse_r7) (.cond (.t 27) fPParse_k2 (.kill [27] .skip))) (.keep [2, 4, 6] (.seq (.seq (.reg fPParse_r9) (.block 0 (.loop fPParse_l5))) (.keep [2, 4] (.seq (.draw fPParse_r15) .ret))))))))))))
@[reducible] def fPParse_rs : List IRes := [.cell 2 (some 100), .tmp 3]
theorem fPParse_low : lowFunc Try.prog 14 [] [(15, [0, 1, 2, 3, 5, 6, 7, 8, 9, 10, 11, 12, 13, 14, 16, 17, 18, 19, 21, 22, 23, 24, 25, 26, 27, 28, 29, 30, 31, 32, 4, 15, 20, 33, 34, 35])] = some ⟨fPParse.bare, fPParse_rs, 88⟩ := by kernel_rfl

@[reducible] def fPREncode_r0 : List (DOper × List Nat) := [
  o1 1 (.box 37 (.t 0)) [0],
  o1 2 (.mv (.k (.list 1 ⟨true, true, false⟩ []))) [2]]
@[reducible] def fPREncode_r1 : List (DOper × List Nat) := [
  o1 3 (.load (some 100) (.t 1)) [],
  o2 5 2 (.fieldAddr 36 (.t 1)) [1],
  o2 6 3 (.slA 1 64 (.t 5) none none none) [5],
  (⟨⟨(some 4), none, .call 18 [(.t 3)]⟩, 1, [3]⟩, [3]),
  o2 7 4 (.call 54 [(.t 4), (.k (.int .u8 6)), (.t 6)]) [4, 6],
  o2 2 5 (.mv (.t 7)) [7]]
/-- bosun/bosunref12.Encode -/
@[reducible] def fPREncode : KCode := (.seq (.reg fPREncode_r0) (.seq (.draw fPREncode_r1) .ret))
@[reducible] def fPREncode_rs : List IRes := [.tmp 2]
theorem fPREncode_low : lowFunc Try.prog 15 [] [(1, [0, 2, 3, 1, 4, 5])] = some ⟨fPREncode.bare, fPREncode_rs, 8⟩ := by kernel_rfl

@[reducible] def fPOf_r0 : List (DOper × List Nat) := [
  o1 1 (.box 28 (.t 0)) [0],
  o1 2 (.alloc 37 [(.int .u32 0), (.int .u32 0), (.int .u32 0), (.int .u8 0), (.int .u8 0), (.int .u8 0), (.int .u8 0), (.int .u8 0), (.int .u8 0), (.int .u8 0), (.int .u8 0), (.int .u8 0), (.int .u8 0), (.int .u8 0), (.int .u8 0), (.int .u8 0), (.int .u8 0), (.int .u8 0), (.int .u8 0), (.int .u8 0), (.int .u8 0), (.int .u8 0), (.int .u8 0), (.int .u8 0), (.int .u8 0), (.int .u8 0), (.int .u8 0), (.int .u8 0), (.int .u8 0), (.int .u8 0), (.int .u8 0), (.int .u8 0), (.int .u8 0), (.int .u8 0), (.int .u8 0), (.int .u8 0), (.int .u8 0), (.int .u8 0), (.int .u8 0), (.int .u8 0), (.int .u8 0), (.int .u8 0), (.int .u8 0), (.int .u8 0), (.int .u8 0), (.int .u8 0), (.int .u8 0), (.int .u8 0), (.int .u8 0), (.int .u8 0), (.int .u8 0), (.int .u8 0), (.int .u8 0), (.int .u8 0), (.int .u8 0), (.int .u8 0), (.int .u8 0), (.int .u8 0), (.int .u8 0), (.int .u8 0), (.int .u8 0), (.int .u8 0), (.int .u8 0), (.int .u8 0), (.int .u8 0), (.int .u8 0), (.int .u8 0), (.int .u8 0), (.int .u8 0), (.int .u8 0), (.int .u8 0), (.int .u8 0), (.int .u8 0), (.int .u8 0), (.int .u8 0), (.int .u8 0), (.int .u8 0), (.int .u8 0), (.int .u8 0), (.int .u8 0), (.int .u8 0), (.int .u8 0), (.int .u8 0), (.int .u8 0), (.int .u8 0), (.int .u8 0), (.int .u8 0), (.int .u8 0), (.int .u8 0), (.int .u8 0), (.int .u8 0), (.int .u8 0), (.int .u8 0), (.int .u8 0), (.int .u8 0), (.int .u8 0), (.int .u8 0), (.int .u8 0), (.int .u8 0), (.int .u8 0)]) []]
@[reducible] def fPOf_r1 : List (DOper × List Nat) := [
  o1 3 (.fieldAddr 0 (.t 1)) [],
  o1 4 (.load none (.t 3)) [3],
  o1 5 (.fieldAddr 2 (.t 1)) [],
  o1 6 (.load none (.t 5)) [5],
  o1 7 (.fieldAddr 3 (.t 1)) [],
  o1 8 (.load none (.t 7)) [7],
  o1 9 (.fieldAddr 1 (.t 1)) [],
  o1 10 (.load none (.t 9)) [9],
  o1 11 (.fieldAddr 4 (.t 1)) [],
  o1 12 (.load (some 32) (.t 11)) [11],
  o1 13 (.fieldAddr 36 (.t 1)) [1],
  o1 14 (.load (some 64) (.t 13)) [13],
  o1 15 (.build [(.int .u32 0), (.int .u32 0), (.int .u32 0), (.int .u8 0), (.int .u8 0), (.int .u8 0), (.int .u8 0), (.int .u8 0), (.int .u8 0), (.int .u8 0), (.int .u8 0), (.int .u8 0), (.int .u8 0), (.int .u8 0), (.int .u8 0), (.int .u8 0), (.int .u8 0), (.int .u8 0), (.int .u8 0), (.int .u8 0), (.int .u8 0), (.int .u8 0), (.int .u8 0), (.int .u8 0), (.int .u8 0), (.int .u8 0), (.int .u8 0), (.int .u8 0), (.int .u8 0), (.int .u8 0), (.int .u8 0), (.int .u8 0), (.int .u8 0), (.int .u8 0), (.int .u8 0), (.int .u8 0), (.int .u8 0), (.int .u8 0), (.int .u8 0), (.int .u8 0), (.int .u8 0), (.int .u8 0), (.int .u8 0), (.int .u8 0), (.int .u8 0), (.int .u8 0), (.int .u8 0), (.int .u8 0), (.int .u8 0), (.int .u8 0), (.int .u8 0), (.int .u8 0), (.int .u8 0), (.int .u8 0), (.int .u8 0), (.int .u8 0), (.int .u8 0), (.int .u8 0), (.int .u8 0), (.int .u8 0), (.int .u8 0), (.int .u8 0), (.int .u8 0), (.int .u8 0), (.int .u8 0), (.int .u8 0), (.int .u8 0), (.int .u8 0), (.int .u8 0), (.int .u8 0), (.int .u8 0), (.int .u8 0), (.int .u8 0), (.int .u8 0), (.int .u8 0), (.int .u8 0), (.int .u8 0), (.int .u8 0), (.int .u8 0), (.int .u8 0), (.int .u8 0), (.int .u8 0), (.int .u8 0), (.int .u8 0), (.int .u8 0), (.int .u8 0), (.int .u8 0), (.int .u8 0), (.int .u8 0), (.int .u8 0), (.int .u8 0), (.int .u8 0), (.int .u8 0), (.int .u8 0), (.int .u8 0), (.int .u8 0), (.int .u8 0), (.int .u8 0), (.int .u8 0), (.int .u8 0)] [(0, 1, (.t 4)), (1, 1, (.t 6)), (2, 1, (.t 8)), (3, 1, (.t 10)), (4, 32, (.t 12)), (36, 64, (.t 14))]) [4, 6, 8, 10, 12, 14],
  (⟨⟨none, none, .store 100 (.t 2) (.t 15)⟩, 0, []⟩, [15])]
/-- bosun/bosunlaw12.of -/
@[reducible] def fPOf : KCode := (.seq (.reg fPOf_r0) (.seq (.reg fPOf_r1) .ret))
@[reducible] def fPOf_rs : List IRes := [.cell 2 (some 100)]
theorem fPOf_low : lowFunc Try.prog 16 [] [] = some ⟨fPOf.bare, fPOf_rs, 16⟩ := by kernel_rfl

@[reducible] def fPSigned_r0 : List (DOper × List Nat) := [
  o1 1 (.box 28 (.t 0)) [0],
  o1 2 (.mv (.k (.list 1 ⟨true, true, false⟩ []))) [2]]
@[reducible] def fPSigned_r1 : List (DOper × List Nat) := [
  o1 6 (.load (some 100) (.t 1)) [1],
  o1 7 (.call 51 [(.t 6)]) [6],
  o1 8 (.call 50 [(.t 7)]) [7],
  o1 5 (.mv (.t 8)) [8],
  o1 9 (.extract 0 (.t 5)) [],
  o1 10 (.extract 1 (.t 5)) [5],
  o1 3 (.mv (.t 9)) [9],
  o1 4 (.mv (.t 10)) [4, 10]]
@[reducible] def fPSigned_r2 : List (DOper × List Nat) := [
  o1 11 (.mv (.t 3)) [3],
  o1 2 (.mv (.t 11)) [11]]
/-- (bosun/packet.Packet).Signed -/
@[reducible] def fPSigned : KCode := (.seq (.reg fPSigned_r0) (.seq (.reg fPSigned_r1) (.seq (.reg fPSigned_r2) .ret)))
@[reducible] def fPSigned_rs : List IRes := [.tmp 2]
theorem fPSigned_low : lowFunc Try.prog 17 [] [] = some ⟨fPSigned.bare, fPSigned_rs, 12⟩ := by kernel_rfl

@[reducible] def fPRSigned_r0 : List (DOper × List Nat) := [
  o1 1 (.box 37 (.t 0)) [0],
  o1 2 (.mv (.k (.list 1 ⟨true, true, false⟩ []))) [2]]
@[reducible] def fPRSigned_r1 : List (DOper × List Nat) := [
  o1 4 (.fieldAddr 0 (.t 1)) [],
  o1 5 (.load none (.t 4)) [4],
  o1 6 (.call 55 [(.t 5)]) [5],
  o1 7 (.call 54 [(.k (.list 1 ⟨true, true, false⟩ [])), (.k (.int .u8 1)), (.t 6)]) [6],
  o1 3 (.mv (.t 7)) [7]]
@[reducible] def fPRSigned_r2 : List (DOper × List Nat) := [
  o1 8 (.mv (.t 3)) [3],
  o1 9 (.fieldAddr 3 (.t 1)) [],
  o1 10 (.load none (.t 9)) [9],
  o1 11 (.buildF 5 1 [(.int .u8 0)] [(0, 1, (.t 10))]) [10],
  o1 12 (.call 54 [(.t 8), (.k (.int .u8 2)), (.t 11)]) [8, 11],
  o1 3 (.mv (.t 12)) [12]]
@[reducible] def fPRSigned_r3 : List (DOper × List Nat) := [
  o1 13 (.mv (.t 3)) [3],
  o1 14 (.fieldAddr 1 (.t 1)) [],
  o1 15 (.load none (.t 14)) [14],
  o1 16 (.call 55 [(.t 15)]) [15],
  o1 17 (.call 54 [(.t 13), (.k (.int .u8 3)), (.t 16)]) [13, 16],
  o1 3 (.mv (.t 17)) [17]]
@[reducible] def fPRSigned_r4 : List (DOper × List Nat) := [
  o1 18 (.mv (.t 3)) [3],
  o1 19 (.fieldAddr 2 (.t 1)) [],
  o1 20 (.load none (.t 19)) [19],
  o1 21 (.call 55 [(.t 20)]) [20],
  o1 22 (.call 54 [(.t 18), (.k (.int .u8 4)), (.t 21)]) [18, 21],
  o1 3 (.mv (.t 22)) [22]]
@[reducible] def fPRSigned_r5 : List (DOper × List Nat) := [
  o1 23 (.mv (.t 3)) [3],
  o1 24 (.fieldAddr 4 (.t 1)) [1],
  o1 25 (.slA 1 32 (.t 24) none none none) [24],
  o1 26 (.call 54 [(.t 23), (.k (.int .u8 5)), (.t 25)]) [23, 25],
  o1 2 (.mv (.t 26)) [26]]
/-- bosun/bosunref12.Signed -/
@[reducible] def fPRSigned : KCode := (.seq (.reg fPRSigned_r0) (.seq (.reg fPRSigned_r1) (.seq (.reg fPRSigned_r2) (.seq (.reg fPRSigned_r3) (.seq (.reg fPRSigned_r4) (.seq (.reg fPRSigned_r5) .ret))))))
@[reducible] def fPRSigned_rs : List IRes := [.tmp 2]
theorem fPRSigned_low : lowFunc Try.prog 18 [] [] = some ⟨fPRSigned.bare, fPRSigned_rs, 27⟩ := by kernel_rfl

@[reducible] def fPRParse_r0 : List (DOper × List Nat) := [
  o1 2 (.alloc 37 [(.int .u32 0), (.int .u32 0), (.int .u32 0), (.int .u8 0), (.int .u8 0), (.int .u8 0), (.int .u8 0), (.int .u8 0), (.int .u8 0), (.int .u8 0), (.int .u8 0), (.int .u8 0), (.int .u8 0), (.int .u8 0), (.int .u8 0), (.int .u8 0), (.int .u8 0), (.int .u8 0), (.int .u8 0), (.int .u8 0), (.int .u8 0), (.int .u8 0), (.int .u8 0), (.int .u8 0), (.int .u8 0), (.int .u8 0), (.int .u8 0), (.int .u8 0), (.int .u8 0), (.int .u8 0), (.int .u8 0), (.int .u8 0), (.int .u8 0), (.int .u8 0), (.int .u8 0), (.int .u8 0), (.int .u8 0), (.int .u8 0), (.int .u8 0), (.int .u8 0), (.int .u8 0), (.int .u8 0), (.int .u8 0), (.int .u8 0), (.int .u8 0), (.int .u8 0), (.int .u8 0), (.int .u8 0), (.int .u8 0), (.int .u8 0), (.int .u8 0), (.int .u8 0), (.int .u8 0), (.int .u8 0), (.int .u8 0), (.int .u8 0), (.int .u8 0), (.int .u8 0), (.int .u8 0), (.int .u8 0), (.int .u8 0), (.int .u8 0), (.int .u8 0), (.int .u8 0), (.int .u8 0), (.int .u8 0), (.int .u8 0), (.int .u8 0), (.int .u8 0), (.int .u8 0), (.int .u8 0), (.int .u8 0), (.int .u8 0), (.int .u8 0), (.int .u8 0), (.int .u8 0), (.int .u8 0), (.int .u8 0), (.int .u8 0), (.int .u8 0), (.int .u8 0), (.int .u8 0), (.int .u8 0), (.int .u8 0), (.int .u8 0), (.int .u8 0), (.int .u8 0), (.int .u8 0), (.int .u8 0), (.int .u8 0), (.int .u8 0), (.int .u8 0), (.int .u8 0), (.int .u8 0), (.int .u8 0), (.int .u8 0), (.int .u8 0), (.int .u8 0), (.int .u8 0), (.int .u8 0)]) [],
  o1 3 (.mv (.k (.int .i64 0))) [3]]
@[reducible] def fPRParse_r1 : List (DOper × List Nat) := [
  o1 4 (.alloc 37 [(.int .u32 0), (.int .u32 0), (.int .u32 0), (.int .u8 0), (.int .u8 0), (.int .u8 0), (.int .u8 0), (.int .u8 0), (.int .u8 0), (.int .u8 0), (.int .u8 0), (.int .u8 0), (.int .u8 0), (.int .u8 0), (.int .u8 0), (.int .u8 0), (.int .u8 0), (.int .u8 0), (.int .u8 0), (.int .u8 0), (.int .u8 0), (.int .u8 0), (.int .u8 0), (.int .u8 0), (.int .u8 0), (.int .u8 0), (.int .u8 0), (.int .u8 0), (.int .u8 0), (.int .u8 0), (.int .u8 0), (.int .u8 0), (.int .u8 0), (.int .u8 0), (.int .u8 0), (.int .u8 0), (.int .u8 0), (.int .u8 0), (.int .u8 0), (.int .u8 0), (.int .u8 0), (.int .u8 0), (.int .u8 0), (.int .u8 0), (.int .u8 0), (.int .u8 0), (.int .u8 0), (.int .u8 0), (.int .u8 0), (.int .u8 0), (.int .u8 0), (.int .u8 0), (.int .u8 0), (.int .u8 0), (.int .u8 0), (.int .u8 0), (.int .u8 0), (.int .u8 0), (.int .u8 0), (.int .u8 0), (.int .u8 0), (.int .u8 0), (.int .u8 0), (.int .u8 0), (.int .u8 0), (.int .u8 0), (.int .u8 0), (.int .u8 0), (.int .u8 0), (.int .u8 0), (.int .u8 0), (.int .u8 0), (.int .u8 0), (.int .u8 0), (.int .u8 0), (.int .u8 0), (.int .u8 0), (.int .u8 0), (.int .u8 0), (.int .u8 0), (.int .u8 0), (.int .u8 0), (.int .u8 0), (.int .u8 0), (.int .u8 0), (.int .u8 0), (.int .u8 0), (.int .u8 0), (.int .u8 0), (.int .u8 0), (.int .u8 0), (.int .u8 0), (.int .u8 0), (.int .u8 0), (.int .u8 0), (.int .u8 0), (.int .u8 0), (.int .u8 0), (.int .u8 0), (.int .u8 0)]) []]
@[reducible] def fPRParse_r2 : List (DOper × List Nat) := [
  o1 11 (.mv (.t 0)) [],
  o1 12 (.len true (.t 11)) [11],
  o1 13 (.bin false .gtr (.t 12) (.k (.int .i64 128))) [12]]
@[reducible] def fPRParse_r3 : List (DOper × List Nat) := [
  o1 14 (.load (some 100) (.t 4)) [4],
  (⟨⟨none, none, .store 100 (.t 2) (.t 14)⟩, 0, []⟩, [14]),
  o1 3 (.mv (.k (.int .i64 17))) []]
@[reducible] def fPRParse_k0 : KCode := (.kill [0, 13] (.seq (.reg fPRParse_r3) .ret))
@[reducible] def fPRParse_r4 : List (DOper × List Nat) := [
  o1 16 (.mv (.t 0)) [],
  o1 17 (.call 56 [(.t 16)]) [16],
  o1 15 (.mv (.t 17)) [17],
  o1 18 (.extract 0 (.t 15)) [],
  o1 19 (.extract 1 (.t 15)) [15],
  o1 5 (.mv (.t 18)) [5, 18],
  o1 6 (.mv (.t 19)) [19]]
@[reducible] def fPRParse_r5 : List (DOper × List Nat) := [
  o1 20 (.mv (.t 6)) [],
  o1 21 (.bin false .neq (.t 20) (.k (.int .i64 0))) [20]]
@[reducible] def fPRParse_r6 : List (DOper × List Nat) := [
  o1 22 (.load (some 100) (.t 4)) [4],
  o1 23 (.mv (.t 6)) [6],
  (⟨⟨none, none, .store 100 (.t 2) (.t 22)⟩, 0, []⟩, [22]),
  o1 3 (.mv (.t 23)) [23]]
@[reducible] def fPRParse_k1 : KCode := (.kill [0, 21] (.seq (.reg fPRParse_r6) .ret))
@[reducible] def fPRParse_r7 : List (DOper × List Nat) := [
  o1 24 (.mv (.t 0)) [],
  o1 25 (.len true (.t 24)) [24],
  o1 26 (.bin false .neq (.t 25) (.k (.int .i64 121))) [25]]
@[reducible] def fPRParse_r8 : List (DOper × List Nat) := [
  o1 27 (.load (some 100) (.t 4)) [4],
  (⟨⟨none, none, .store 100 (.t 2) (.t 27)⟩, 0, []⟩, [27]),
  o1 3 (.mv (.k (.int .i64 7))) []]
@[reducible] def fPRParse_k2 : KCode := (.kill [0, 26] (.seq (.reg fPRParse_r8) .ret))
@[reducible] def fPRParse_r9 : List (DOper × List Nat) := [
  o1 28 (.mv (.t 0)) [],
  o1 29 (.slS 1 (.t 28) (some (.k (.int .i64 2))) (some (.k (.int .i64 6))) none) [28],
  o1 30 (.call 57 [(.t 29)]) [29],
  o1 31 (.fieldAddr 0 (.t 4)) [],
  (⟨⟨none, none, .store 1 (.t 31) (.t 30)⟩, 0, []⟩, [30, 31])]
@[reducible] def fPRParse_r10 : List (DOper × List Nat) := [
  o1 32 (.mv (.t 0)) [],
  o1 33 (.idxS 1 (.t 32) (.k (.int .i64 8))) [32],
  o1 34 (.load none (.t 33)) [33],
  o1 35 (.fieldAddr 3 (.t 4)) [],
  (⟨⟨none, none, .store 1 (.t 35) (.t 34)⟩, 0, []⟩, [34, 35])]
@[reducible] def fPRParse_r11 : List (DOper × List Nat) := [
  o1 36 (.mv (.t 0)) [],
  o1 37 (.slS 1 (.t 36) (some (.k (.int .i64 11))) (some (.k (.int .i64 15))) none) [36],
  o1 38 (.call 57 [(.t 37)]) [37],
  o1 39 (.fieldAddr 1 (.t 4)) [],
  (⟨⟨none, none, .store 1 (.t 39) (.t 38)⟩, 0, []⟩, [38, 39])]
@[reducible] def fPRParse_r12 : List (DOper × List Nat) := [
  o1 40 (.mv (.t 0)) [],
  o1 41 (.slS 1 (.t 40) (some (.k (.int .i64 17))) (some (.k (.int .i64 21))) none) [40],
  o1 42 (.call 57 [(.t 41)]) [41],
  o1 43 (.fieldAddr 2 (.t 4)) [],
  (⟨⟨none, none, .store 1 (.t 43) (.t 42)⟩, 0, []⟩, [42, 43])]
@[reducible] def fPRParse_r13 : List (DOper × List Nat) := [
  o1 7 (.mv (.k (.int .i64 0))) []]
@[reducible] def fPRParse_r14 : List (DOper × List Nat) := [
  o1 44 (.mv (.t 7)) [],
  o1 45 (.bin false .lss (.t 44) (.k (.int .i64 32))) [44]]
@[reducible] def fPRParse_k3 : KCode := (.kill [7, 45] (.exit 0))
@[reducible] def fPRParse_r15 : List (DOper × List Nat) := [
  o1 48 (.mv (.t 7)) [],
  o1 49 (.mv (.t 0)) [],
  o1 50 (.mv (.t 7)) [],
  o1 51 (.bin false .add (.k (.int .i64 23)) (.t 50)) [50],
  o1 52 (.idxS 1 (.t 49) (.t 51)) [49, 51],
  o1 53 (.load none (.t 52)) [52],
  o1 54 (.fieldAddr 4 (.t 4)) [],
  o1 55 (.idxA 32 1 (.t 54) (.t 48)) [48, 54],
  (⟨⟨none, none, .store 1 (.t 55) (.t 53)⟩, 0, []⟩, [53, 55])]
@[reducible] def fPRParse_r16 : List (DOper × List Nat) := [
  o1 46 (.mv (.t 7)) [7],
  o1 47 (.bin false .add (.t 46) (.k (.int .i64 1))) [46],
  o1 7 (.mv (.t 47)) [47]]
/-- live: [0, 2, 4, 7] -/
@[reducible] def fPRParse_l4 : KCode := (.seq (.seq (.reg fPRParse_r14) (.cond (.t 45) (.kill [45] .skip) fPRParse_k3)) (.kill [44, 45] (.seq (.block 1 (.reg fPRParse_r15)) (.keep [0, 2, 4, 7] (.reg fPRParse_r16)))))
@[reducible] def fPRParse_r17 : List (DOper × List Nat) := [
  o1 8 (.mv (.k (.int .i64 0))) []]
@[reducible] def fPRParse_r18 : List (DOper × List Nat) := [
  o1 56 (.mv (.t 8)) [],
  o1 57 (.bin false .lss (.t 56) (.k (.int .i64 64))) [56]]
@[reducible] def fPRParse_k5 : KCode := (.kill [8, 57] (.exit 2))
@[reducible] def fPRParse_r19 : List (DOper × List Nat) := [
  o1 60 (.mv (.t 8)) [],
  o1 61 (.mv (.t 0)) [],
  o1 62 (.mv (.t 8)) [],
  o1 63 (.bin false .add (.k (.int .i64 57)) (.t 62)) [62],
  o1 64 (.idxS 1 (.t 61) (.t 63)) [61, 63],
  o1 65 (.load none (.t 64)) [64],
  o1 66 (.fieldAddr 36 (.t 4)) [],
  o1 67 (.idxA 64 1 (.t 66) (.t 60)) [60, 66],
  (⟨⟨none, none, .store 1 (.t 67) (.t 65)⟩, 0, []⟩, [65, 67])]
@[reducible] def fPRParse_r20 : List (DOper × List Nat) := [
  o1 58 (.mv (.t 8)) [8],
  o1 59 (.bin false .add (.t 58) (.k (.int .i64 1))) [58],
  o1 8 (.mv (.t 59)) [59]]
/-- live: [0, 2, 4, 8] -/
@[reducible] def fPRParse_l6 : KCode := (.seq (.seq (.reg fPRParse_r18) (.cond (.t 57) (.kill [57] .skip) fPRParse_k5)) (.kill [56, 57] (.seq (.block 3 (.reg fPRParse_r19)) (.keep [0, 2, 4, 8] (.reg fPRParse_r20)))))
@[reducible] def fPRParse_r21 : List (DOper × List Nat) := [
  o1 68 (.load (some 100) (.t 4)) [],
  o1 69 (.call 15 [(.t 68)]) [68],
  o1 9 (.mv (.t 69)) [69]]
@[reducible] def fPRParse_r22 : List (DOper × List Nat) := [
  o1 10 (.mv (.k (.int .i64 0))) []]
@[reducible] def fPRParse_r23 : List (DOper × List Nat) := [
  o1 70 (.mv (.t 10)) [],
  o1 71 (.bin false .lss (.t 70) (.k (.int .i64 121))) [70]]
@[reducible] def fPRParse_k7 : KCode := (.keep [2, 4] (.exit 4))
@[reducible] def fPRParse_r24 : List (DOper × List Nat) := [
  o1 74 (.mv (.t 0)) [],
  o2 75 1 (.mv (.t 10)) [],
  o2 76 2 (.idxS 1 (.t 74) (.t 75)) [74, 75],
  o2 77 3 (.load none (.t 76)) [76],
  o2 78 4 (.mv (.t 9)) [],
  o2 79 5 (.mv (.t 10)) [],
  o2 80 6 (.idxS 1 (.t 78) (.t 79)) [78, 79],
  o2 81 7 (.load none (.t 80)) [80],
  o2 82 8 (.bin false .neq (.t 77) (.t 81)) [77, 81]]
@[reducible] def fPRParse_r25 : List (DOper × List Nat) := [
  o1 83 (.build [(.int .u32 0), (.int .u32 0), (.int .u32 0), (.int .u8 0), (.int .u8 0), (.int .u8 0), (.int .u8 0), (.int .u8 0), (.int .u8 0), (.int .u8 0), (.int .u8 0), (.int .u8 0), (.int .u8 0), (.int .u8 0), (.int .u8 0), (.int .u8 0), (.int .u8 0), (.int .u8 0), (.int .u8 0), (.int .u8 0), (.int .u8 0), (.int .u8 0), (.int .u8 0), (.int .u8 0), (.int .u8 0), (.int .u8 0), (.int .u8 0), (.int .u8 0), (.int .u8 0), (.int .u8 0), (.int .u8 0), (.int .u8 0), (.int .u8 0), (.int .u8 0), (.int .u8 0), (.int .u8 0), (.int .u8 0), (.int .u8 0), (.int .u8 0), (.int .u8 0), (.int .u8 0), (.int .u8 0), (.int .u8 0), (.int .u8 0), (.int .u8 0), (.int .u8 0), (.int .u8 0), (.int .u8 0), (.int .u8 0), (.int .u8 0), (.int .u8 0), (.int .u8 0), (.int .u8 0), (.int .u8 0), (.int .u8 0), (.int .u8 0), (.int .u8 0), (.int .u8 0), (.int .u8 0), (.int .u8 0), (.int .u8 0), (.int .u8 0), (.int .u8 0), (.int .u8 0), (.int .u8 0), (.int .u8 0), (.int .u8 0), (.int .u8 0), (.int .u8 0), (.int .u8 0), (.int .u8 0), (.int .u8 0), (.int .u8 0), (.int .u8 0), (.int .u8 0), (.int .u8 0), (.int .u8 0), (.int .u8 0), (.int .u8 0), (.int .u8 0), (.int .u8 0), (.int .u8 0), (.int .u8 0), (.int .u8 0), (.int .u8 0), (.int .u8 0), (.int .u8 0), (.int .u8 0), (.int .u8 0), (.int .u8 0), (.int .u8 0), (.int .u8 0), (.int .u8 0), (.int .u8 0), (.int .u8 0), (.int .u8 0), (.int .u8 0), (.int .u8 0), (.int .u8 0), (.int .u8 0)] []) [],
  (⟨⟨none, none, .store 100 (.t 2) (.t 83)⟩, 0, []⟩, [83]),
  o1 3 (.mv (.k (.int .i64 7))) []]
@[reducible] def fPRParse_k8 : KCode := (.keep [2] (.seq (.reg fPRParse_r25) .ret))
@[reducible] def fPRParse_r26 : List (DOper × List Nat) := [
  o1 72 (.mv (.t 10)) [10],
  o1 73 (.bin false .add (.t 72) (.k (.int .i64 1))) [72],
  o1 10 (.mv (.t 73)) [73]]
/-- live: [0, 2, 4, 9, 10] -/
@[reducible] def fPRParse_l9 : KCode := (.seq (.seq (.reg fPRParse_r23) (.cond (.t 71) (.kill [71] .skip) fPRParse_k7)) (.kill [70, 71] (.seq (.block 5 (.seq (.draw fPRParse_r24) (.cond (.t 82) fPRParse_k8 (.kill [82] .skip)))) (.keep [0, 2, 4, 9, 10] (.reg fPRParse_r26)))))
@[reducible] def fPRParse_r27 : List (DOper × List Nat) := [
  o1 84 (.load (some 100) (.t 4)) [4],
  (⟨⟨none, none, .store 100 (.t 2) (.t 84)⟩, 0, []⟩, [84]),
  o1 3 (.mv (.k (.int .i64 0))) []]
/-- bosun/bosunref12.Parse -/
@[reducible] def fPRParse : KCode := (.seq (.reg fPRParse_r0) (.seq (.reg fPRParse_r1) (.seq (.seq (.reg fPRParse_r2) (.cond (.t 13) fPRParse_k0 (.kill [13] .skip))) (.keep [0, 2, 4] (.seq (.seq (.reg fPRParse_r4) (.seq (.reg fPRParse_r5) (.cond (.t 21) fPRParse_k1 (.kill [6, 21] .skip)))) (.keep [0, 2, 4] (.seq (.seq (.reg fPRParse_r7) (.cond (.t 26) fPRParse_k2 (.kill [26] .skip))) (.keep [0, 2, 4] (.seq (.reg fPRParse_r9) (.seq (.reg fPRParse_r10) (.seq (.reg fPRParse_r11) (.seq (.reg fPRParse_r12) (.seq (.seq (.reg fPRParse_r13) (.block 0 (.loop fPRParse_l4))) (.keep [0, 2, 4] (.seq (.seq (.reg fPRParse_r17) (.block 2 (.loop fPRParse_l6))) (.keep [0, 2, 4] (.seq (.reg fPRParse_r21) (.seq (.seq (.reg fPRParse_r22) (.block 4 (.loop fPRParse_l9))) (.keep [2, 4] (.seq (.reg fPRParse_r27) .ret))))))))))))))))))))
@[reducible] def fPRParse_rs : List IRes := [.cell 2 (some 100), .tmp 3]
theorem fPRParse_low : lowFunc Try.prog 19 [] [] = some ⟨fPRParse.bare, fPRParse_rs, 85⟩ := by kernel_rfl

@[reducible] def fPHash_r0 : List (DOper × List Nat) := [
  o1 2 (.mv (.k (.list 1 ⟨true, true, false⟩ []))) [2]]
@[reducible] def fPHash_r1 : List (DOper × List Nat) := [
  o1 3 (.call 59 []) [],
  o1 4 (.mv (.t 0)) [0],
  o1 5 (.call 58 [(.t 3), (.t 4)]) [3, 4],
  o1 2 (.mv (.t 5)) [5]]
/-- bosun/bosunlaw12.hash -/
@[reducible] def fPHash : KCode := (.seq (.reg fPHash_r0) (.seq (.reg fPHash_r1) .ret))
@[reducible] def fPHash_rs : List IRes := [.tmp 2]
theorem fPHash_low : lowFunc Try.prog 20 [] [] = some ⟨fPHash.bare, fPHash_rs, 6⟩ := by kernel_rfl

@[reducible] def fPItems_r0 : List (DOper × List Nat) := [
  o1 1 (.box 28 (.t 0)) [0],
  o1 2 (.mv (.k (.list 1 ⟨true, true, false⟩ []))) [2]]
@[reducible] def fPItems_r1 : List (DOper × List Nat) := [
  o1 3 (.fieldAddr 0 (.t 1)) [],
  o2 4 1 (.load none (.t 3)) [3],
  o2 7 4 (.fieldAddr 1 (.t 1)) [],
  o2 8 5 (.load none (.t 7)) [7],
  o2 9 6 (.buildF 5 1 [(.int .u8 0)] [(0, 1, (.t 8))]) [8],
  o2 10 7 (.build [(.int .u8 0), (.list 1 ⟨true, true, false⟩ [])] [(0, 1, (.k (.int .u8 2))), (1, 1, (.t 9))]) [9],
  o2 11 8 (.fieldAddr 2 (.t 1)) [],
  o2 12 9 (.load none (.t 11)) [11],
  o2 15 12 (.fieldAddr 3 (.t 1)) [],
  o2 16 13 (.load none (.t 15)) [15],
  o2 19 16 (.fieldAddr 4 (.t 1)) [1],
  o2 20 17 (.slA 1 32 (.t 19) none none none) [19],
  o2 21 18 (.build [(.int .u8 0), (.list 1 ⟨true, true, false⟩ [])] [(0, 1, (.k (.int .u8 5))), (1, 1, (.t 20))]) [20],
  (⟨⟨(some 5), none, .call 101 [(.t 4)]⟩, 2, [17, 13, 9, 5]⟩, [4]),
  o2 6 3 (.build [(.int .u8 0), (.list 1 ⟨true, true, false⟩ [])] [(0, 1, (.k (.int .u8 1))), (1, 1, (.t 5))]) [5],
  (⟨⟨(some 13), none, .call 101 [(.t 12)]⟩, 10, [17, 13, 5]⟩, [12]),
  o2 14 11 (.build [(.int .u8 0), (.list 1 ⟨true, true, false⟩ [])] [(0, 1, (.k (.int .u8 3))), (1, 1, (.t 13))]) [13],
  (⟨⟨(some 17), none, .call 101 [(.t 16)]⟩, 14, [17, 5]⟩, [16]),
  o2 18 15 (.build [(.int .u8 0), (.list 1 ⟨true, true, false⟩ [])] [(0, 1, (.k (.int .u8 4))), (1, 1, (.t 17))]) [17],
  o2 22 19 (.buildF 95 2 [(.int .u8 0), (.list 1 ⟨true, true, false⟩ []), (.int .u8 0), (.list 1 ⟨true, true, false⟩ []), (.int .u8 0), (.list 1 ⟨true, true, false⟩ []), (.int .u8 0), (.list 1 ⟨true, true, false⟩ []), (.int .u8 0), (.list 1 ⟨true, true, false⟩ [])] [(0, 2, (.t 6)), (2, 2, (.t 10)), (4, 2, (.t 14)), (6, 2, (.t 18)), (8, 2, (.t 21))]) [6, 10, 14, 18, 21],
  o2 2 20 (.mv (.t 22)) [22]]
/-- (bosun/packet.Packet).items -/
@[reducible] def fPItems : KCode := (.seq (.reg fPItems_r0) (.seq (.draw fPItems_r1) .ret))
@[reducible] def fPItems_rs : List IRes := [.tmp 2]
theorem fPItems_low : lowFunc Try.prog 51 [] [(1, [0, 1, 4, 5, 6, 7, 8, 9, 12, 13, 16, 17, 18, 2, 3, 10, 11, 14, 15, 19, 20])] = some ⟨fPItems.bare, fPItems_rs, 23⟩ := by kernel_rfl

@[reducible] def fPNumber_r0 : List (DOper × List Nat) := [
  o1 2 (.mv (.k (.int .u32 0))) [2]]
@[reducible] def fPNumber_r1 : List (DOper × List Nat) := [
  o1 3 (.mv (.t 0)) [],
  o2 4 1 (.idxS 1 (.t 3) (.k (.int .i64 0))) [3],
  o2 5 2 (.load none (.t 4)) [4],
  o2 6 3 (.convI .u32 (.t 5)) [5],
  o2 7 4 (.mv (.t 0)) [],
  o2 8 5 (.idxS 1 (.t 7) (.k (.int .i64 1))) [7],
  o2 9 6 (.load none (.t 8)) [8],
  o2 10 7 (.convI .u32 (.t 9)) [9],
  o2 11 8 (.bin false .shl (.t 10) (.k (.int .u64 8))) [10],
  o2 12 9 (.bin false .or (.t 6) (.t 11)) [6, 11],
  o2 13 10 (.mv (.t 0)) [],
  o2 14 11 (.idxS 1 (.t 13) (.k (.int .i64 2))) [13],
  o2 15 12 (.load none (.t 14)) [14],
  o2 16 13 (.convI .u32 (.t 15)) [15],
  o2 17 14 (.bin false .shl (.t 16) (.k (.int .u64 16))) [16],
  o2 18 15 (.bin false .or (.t 12) (.t 17)) [12, 17],
  o2 19 16 (.mv (.t 0)) [0],
  o2 20 17 (.idxS 1 (.t 19) (.k (.int .i64 3))) [19],
  o2 21 18 (.load none (.t 20)) [20],
  o2 22 19 (.convI .u32 (.t 21)) [21],
  o2 23 20 (.bin false .shl (.t 22) (.k (.int .u64 24))) [22],
  o2 24 21 (.bin false .or (.t 18) (.t 23)) [18, 23],
  o2 2 22 (.mv (.t 24)) [24]]
/-- bosun/packet.number -/
@[reducible] def fPNumber : KCode := (.seq (.reg fPNumber_r0) (.seq (.draw fPNumber_r1) .ret))
@[reducible] def fPNumber_rs : List IRes := [.tmp 2]
theorem fPNumber_low : lowFunc Try.prog 53 [] [] = some ⟨fPNumber.bare, fPNumber_rs, 25⟩ := by kernel_rfl

@[reducible] def fPPut_r0 : List (DOper × List Nat) := [
  o1 6 (.mv (.k (.list 1 ⟨true, true, false⟩ []))) [6]]
@[reducible] def fPPut_r1 : List (DOper × List Nat) := [
  o1 8 (.buildF 5 1 [] []) [],
  o1 9 (.mv (.t 0)) [0],
  o1 10 (.appO 5 1 1 (.t 8) (.t 9)) [8, 9],
  o1 7 (.mv (.t 10)) [10]]
@[reducible] def fPPut_r2 : List (DOper × List Nat) := [
  o1 11 (.mv (.t 7)) [7],
  o1 12 (.mv (.t 1)) [1],
  o1 13 (.buildF 5 1 [(.int .u8 0)] [(0, 1, (.t 12))]) [12],
  o1 14 (.appO 5 1 1 (.t 11) (.t 13)) [11, 13],
  o1 7 (.mv (.t 14)) [14]]
@[reducible] def fPPut_r3 : List (DOper × List Nat) := [
  o1 15 (.mv (.t 7)) [7],
  o1 16 (.mv (.t 2)) [],
  o1 17 (.len true (.t 16)) [16],
  o1 18 (.convI .u8 (.t 17)) [17],
  o1 19 (.buildF 5 1 [(.int .u8 0)] [(0, 1, (.t 18))]) [18],
  o1 20 (.appO 5 1 1 (.t 15) (.t 19)) [15, 19],
  o1 7 (.mv (.t 20)) [20]]
@[reducible] def fPPut_r4 : List (DOper × List Nat) := [
  o1 21 (.mv (.t 7)) [7],
  o1 22 (.mv (.t 2)) [2],
  o1 23 (.appO 5 1 1 (.t 21) (.t 22)) [21, 22],
  o1 6 (.mv (.t 23)) [23]]
/-- bosun/bosunref12.put -/
@[reducible] def fPPut : KCode := (.seq (.reg fPPut_r0) (.seq (.reg fPPut_r1) (.seq (.reg fPPut_r2) (.seq (.reg fPPut_r3) (.seq (.reg fPPut_r4) .ret)))))
@[reducible] def fPPut_rs : List IRes := [.tmp 6]
theorem fPPut_low : lowFunc Try.prog 54 [] [] = some ⟨fPPut.bare, fPPut_rs, 24⟩ := by kernel_rfl

@[reducible] def fPWord_r0 : List (DOper × List Nat) := [
  o1 2 (.mv (.k (.list 1 ⟨true, true, false⟩ []))) [2]]
@[reducible] def fPWord_r1 : List (DOper × List Nat) := [
  o1 3 (.mv (.t 0)) [],
  o1 4 (.convI .u8 (.t 3)) [3],
  o1 5 (.mv (.t 0)) [],
  o1 6 (.bin false .shr (.t 5) (.k (.int .u64 8))) [5],
  o1 7 (.convI .u8 (.t 6)) [6],
  o1 8 (.mv (.t 0)) [],
  o1 9 (.bin false .shr (.t 8) (.k (.int .u64 16))) [8],
  o1 10 (.convI .u8 (.t 9)) [9],
  o1 11 (.mv (.t 0)) [0],
  o1 12 (.bin false .shr (.t 11) (.k (.int .u64 24))) [11],
  o1 13 (.convI .u8 (.t 12)) [12],
  o1 14 (.buildF 5 1 [(.int .u8 0), (.int .u8 0), (.int .u8 0), (.int .u8 0)] [(0, 1, (.t 4)), (1, 1, (.t 7)), (2, 1, (.t 10)), (3, 1, (.t 13))]) [4, 7, 10, 13],
  o1 2 (.mv (.t 14)) [14]]
/-- bosun/packet.word -/
@[reducible] def fPWord : KCode := (.seq (.reg fPWord_r0) (.seq (.reg fPWord_r1) .ret))
@[reducible] def fPWord_rs : List IRes := [.tmp 2]
theorem fPWord_low : lowFunc Try.prog 101 [] [] = some ⟨fPWord.bare, fPWord_rs, 15⟩ := by kernel_rfl

@[reducible] def fPRWord_r0 : List (DOper × List Nat) := [
  o1 2 (.mv (.k (.list 1 ⟨true, true, false⟩ []))) [2]]
@[reducible] def fPRWord_r1 : List (DOper × List Nat) := [
  o1 3 (.mv (.k (.list 1 ⟨true, true, false⟩ []))) []]
@[reducible] def fPRWord_r2 : List (DOper × List Nat) := [
  o1 4 (.mv (.k (.int .i64 0))) []]
@[reducible] def fPRWord_r3 : List (DOper × List Nat) := [
  o1 5 (.mv (.t 4)) [],
  o1 6 (.bin false .lss (.t 5) (.k (.int .i64 4))) [5]]
@[reducible] def fPRWord_r4 : List (DOper × List Nat) := [
  o1 9 (.mv (.t 3)) [3],
  o1 10 (.mv (.t 0)) [],
  o1 11 (.bin false .rem (.t 10) (.k (.int .u32 256))) [10],
  o1 12 (.convI .u8 (.t 11)) [11],
  o1 13 (.buildF 5 1 [(.int .u8 0)] [(0, 1, (.t 12))]) [12],
  o1 14 (.appO 5 1 1 (.t 9) (.t 13)) [9, 13],
  o1 3 (.mv (.t 14)) [14]]
@[reducible] def fPRWord_r5 : List (DOper × List Nat) := [
  o1 15 (.mv (.t 0)) [0],
  o1 16 (.bin false .quo (.t 15) (.k (.int .u32 256))) [15],
  o1 0 (.mv (.t 16)) [16]]
@[reducible] def fPRWord_r6 : List (DOper × List Nat) := [
  o1 7 (.mv (.t 4)) [4],
  o1 8 (.bin false .add (.t 7) (.k (.int .i64 1))) [7],
  o1 4 (.mv (.t 8)) [8]]
/-- live: [0, 3, 4] -/
@[reducible] def fPRWord_l0 : KCode := (.seq (.seq (.reg fPRWord_r3) (.cond (.t 6) (.kill [6] .skip) (.keep [3] (.exit 0)))) (.kill [5, 6] (.seq (.block 1 (.seq (.reg fPRWord_r4) (.reg fPRWord_r5))) (.keep [0, 3, 4] (.reg fPRWord_r6)))))
@[reducible] def fPRWord_r7 : List (DOper × List Nat) := [
  o1 17 (.mv (.t 3)) [3],
  o1 2 (.mv (.t 17)) [17]]
/-- bosun/bosunref12.Word -/
@[reducible] def fPRWord : KCode := (.seq (.reg fPRWord_r0) (.seq (.reg fPRWord_r1) (.seq (.seq (.reg fPRWord_r2) (.block 0 (.loop fPRWord_l0))) (.keep [3] (.seq (.reg fPRWord_r7) .ret)))))
@[reducible] def fPRWord_rs : List IRes := [.tmp 2]
theorem fPRWord_low : lowFunc Try.prog 55 [] [] = some ⟨fPRWord.bare, fPRWord_rs, 18⟩ := by kernel_rfl

@[reducible] def fPRNumber_r0 : List (DOper × List Nat) := [
  o1 2 (.mv (.k (.int .u32 0))) [2]]
@[reducible] def fPRNumber_r1 : List (DOper × List Nat) := [
  o1 3 (.mv (.k (.int .u32 0))) []]
@[reducible] def fPRNumber_r2 : List (DOper × List Nat) := [
  o1 4 (.mv (.k (.int .i64 3))) []]
@[reducible] def fPRNumber_r3 : List (DOper × List Nat) := [
  o1 5 (.mv (.t 4)) [],
  o1 6 (.bin false .geq (.t 5) (.k (.int .i64 0))) [5]]
@[reducible] def fPRNumber_r4 : List (DOper × List Nat) := [
  o1 9 (.mv (.t 3)) [3],
  o1 10 (.bin false .mul (.t 9) (.k (.int .u32 256))) [9],
  o1 11 (.mv (.t 0)) [],
  o1 12 (.mv (.t 4)) [],
  o1 13 (.idxS 1 (.t 11) (.t 12)) [11, 12],
  o1 14 (.load none (.t 13)) [13],
  o1 15 (.convI .u32 (.t 14)) [14],
  o1 16 (.bin false .add (.t 10) (.t 15)) [10, 15],
  o1 3 (.mv (.t 16)) [16]]
@[reducible] def fPRNumber_r5 : List (DOper × List Nat) := [
  o1 7 (.mv (.t 4)) [4],
  o1 8 (.bin false .sub (.t 7) (.k (.int .i64 1))) [7],
  o1 4 (.mv (.t 8)) [8]]
/-- live: [0, 3, 4] -/
@[reducible] def fPRNumber_l0 : KCode := (.seq (.seq (.reg fPRNumber_r3) (.cond (.t 6) (.kill [6] .skip) (.keep [3] (.exit 0)))) (.kill [5, 6] (.seq (.block 1 (.reg fPRNumber_r4)) (.keep [0, 3, 4] (.reg fPRNumber_r5)))))
@[reducible] def fPRNumber_r6 : List (DOper × List Nat) := [
  o1 17 (.mv (.t 3)) [3],
  o1 2 (.mv (.t 17)) [17]]
/-- bosun/bosunref12.Number -/
@[reducible] def fPRNumber : KCode := (.seq (.reg fPRNumber_r0) (.seq (.reg fPRNumber_r1) (.seq (.seq (.reg fPRNumber_r2) (.block 0 (.loop fPRNumber_l0))) (.keep [3] (.seq (.reg fPRNumber_r6) .ret)))))
@[reducible] def fPRNumber_rs : List IRes := [.tmp 2]
theorem fPRNumber_low : lowFunc Try.prog 57 [] [] = some ⟨fPRNumber.bare, fPRNumber_rs, 18⟩ := by kernel_rfl

@[reducible] def fPBytes_r0 : List (DOper × List Nat) := [
  o1 1 (.box 28 (.t 0)) [0],
  o1 2 (.mv (.k (.bool false))) [2]]
@[reducible] def fPBytes_r1 : List (DOper × List Nat) := [
  o1 6 (.call 12 []) [],
  o1 7 (.un .not (.t 6)) [6]]
@[reducible] def fPBytes_r2 : List (DOper × List Nat) := [
  o1 2 (.mv (.k (.bool false))) []]
@[reducible] def fPBytes_k0 : KCode := (.keep [] (.seq (.reg fPBytes_r2) .ret))
@[reducible] def fPBytes_r3 : List (DOper × List Nat) := [
  o1 8 (.load (some 100) (.t 1)) [],
  o1 9 (.call 13 [(.t 8)]) [8],
  o1 3 (.mv (.t 9)) [9]]
@[reducible] def fPBytes_r4 : List (DOper × List Nat) := [
  o1 11 (.mv (.t 3)) [],
  o1 12 (.call 14 [(.t 11)]) [11],
  o1 10 (.mv (.t 12)) [12],
  o1 13 (.extract 0 (.t 10)) [],
  o1 14 (.extract 1 (.t 10)) [10],
  o1 4 (.alloc 28 [(.int .u32 0), (.int .u8 0), (.int .u32 0), (.int .u32 0), (.int .u8 0), (.int .u8 0), (.int .u8 0), (.int .u8 0), (.int .u8 0), (.int .u8 0), (.int .u8 0), (.int .u8 0), (.int .u8 0), (.int .u8 0), (.int .u8 0), (.int .u8 0), (.int .u8 0), (.int .u8 0), (.int .u8 0), (.int .u8 0), (.int .u8 0), (.int .u8 0), (.int .u8 0), (.int .u8 0), (.int .u8 0), (.int .u8 0), (.int .u8 0), (.int .u8 0), (.int .u8 0), (.int .u8 0), (.int .u8 0), (.int .u8 0), (.int .u8 0), (.int .u8 0), (.int .u8 0), (.int .u8 0), (.int .u8 0), (.int .u8 0), (.int .u8 0), (.int .u8 0), (.int .u8 0), (.int .u8 0), (.int .u8 0), (.int .u8 0), (.int .u8 0), (.int .u8 0), (.int .u8 0), (.int .u8 0), (.int .u8 0), (.int .u8 0), (.int .u8 0), (.int .u8 0), (.int .u8 0), (.int .u8 0), (.int .u8 0), (.int .u8 0), (.int .u8 0), (.int .u8 0), (.int .u8 0), (.int .u8 0), (.int .u8 0), (.int .u8 0), (.int .u8 0), (.int .u8 0), (.int .u8 0), (.int .u8 0), (.int .u8 0), (.int .u8 0), (.int .u8 0), (.int .u8 0), (.int .u8 0), (.int .u8 0), (.int .u8 0), (.int .u8 0), (.int .u8 0), (.int .u8 0), (.int .u8 0), (.int .u8 0), (.int .u8 0), (.int .u8 0), (.int .u8 0), (.int .u8 0), (.int .u8 0), (.int .u8 0), (.int .u8 0), (.int .u8 0), (.int .u8 0), (.int .u8 0), (.int .u8 0), (.int .u8 0), (.int .u8 0), (.int .u8 0), (.int .u8 0), (.int .u8 0), (.int .u8 0), (.int .u8 0), (.int .u8 0), (.int .u8 0), (.int .u8 0), (.int .u8 0)]) [],
  (⟨⟨none, none, .store 100 (.t 4) (.t 13)⟩, 0, []⟩, [13]),
  o1 5 (.mv (.t 14)) [14]]
@[reducible] def fPBytes_r5 : List (DOper × List Nat) := [
  o1 15 (.mv (.t 3)) [3],
  o2 16 1 (.toStr (.t 15)) [15],
  o2 17 2 (.load (some 100) (.t 1)) [],
  (⟨⟨(some 18), none, .call 16 [(.t 17)]⟩, 3, [1]⟩, [17]),
  (⟨⟨(some 19), none, .call 15 [(.t 18)]⟩, 4, [1]⟩, [18]),
  o2 20 5 (.toStr (.t 19)) [19],
  o2 21 6 (.bin false .eql (.t 16) (.t 20)) [16, 20],
  o2 22 7 (.mv (.t 21)) [21],
  (⟨⟨(some 23), (some (22, true)), .load (some 100) (.t 1)⟩, 8, []⟩, []),
  (⟨⟨(some 26), (some (22, true)), .load (some 100) (.t 1)⟩, 11, []⟩, []),
  (⟨⟨(some 24), (some (22, true)), .call 17 [(.t 23)]⟩, 9, [11]⟩, [23]),
  (⟨⟨(some 25), (some (22, true)), .toStr (.t 24)⟩, 10, []⟩, [24]),
  (⟨⟨(some 27), (some (22, true)), .call 16 [(.t 26)]⟩, 12, [10]⟩, [26]),
  (⟨⟨(some 28), (some (22, true)), .call 18 [(.t 27)]⟩, 13, [10]⟩, [27]),
  (⟨⟨(some 29), (some (22, true)), .toStr (.t 28)⟩, 14, []⟩, [28]),
  (⟨⟨(some 30), (some (22, true)), .bin false .eql (.t 25) (.t 29)⟩, 15, []⟩, [25, 29]),
  o2 31 16 (.pick (.t 22) (.t 30) (.k (.bool false))) [22, 30],
  o2 32 17 (.mv (.t 31)) [31],
  (⟨⟨(some 33), (some (32, true)), .mv (.t 5)⟩, 18, []⟩, [5]),
  (⟨⟨(some 34), (some (32, true)), .bin false .eql (.t 33) (.k (.int .i64 0))⟩, 19, []⟩, [33]),
  o2 35 20 (.pick (.t 32) (.t 34) (.k (.bool false))) [32, 34],
  o2 36 21 (.mv (.t 35)) [35],
  (⟨⟨(some 37), (some (36, true)), .load (some 100) (.t 4)⟩, 22, []⟩, [4]),
  (⟨⟨(some 38), (some (36, true)), .load (some 100) (.t 1)⟩, 23, []⟩, [1]),
  (⟨⟨(some 39), (some (36, true)), .eqA false [.u32, .u8, .u32, .u32, .u8, .u8, .u8, .u8, .u8, .u8, .u8, .u8, .u8, .u8, .u8, .u8, .u8, .u8, .u8, .u8, .u8, .u8, .u8, .u8, .u8, .u8, .u8, .u8, .u8, .u8, .u8, .u8, .u8, .u8, .u8, .u8, .u8, .u8, .u8, .u8, .u8, .u8, .u8, .u8, .u8, .u8, .u8, .u8, .u8, .u8, .u8, .u8, .u8, .u8, .u8, .u8, .u8, .u8, .u8, .u8, .u8, .u8, .u8, .u8, .u8, .u8, .u8, .u8, .u8, .u8, .u8, .u8, .u8, .u8, .u8, .u8, .u8, .u8, .u8, .u8, .u8, .u8, .u8, .u8, .u8, .u8, .u8, .u8, .u8, .u8, .u8, .u8, .u8, .u8, .u8, .u8, .u8, .u8, .u8, .u8] (.t 37) (.t 38)⟩, 24, []⟩, [37, 38]),
  o2 40 25 (.pick (.t 36) (.t 39) (.k (.bool false))) [36, 39],
  o2 2 26 (.mv (.t 40)) [40]]
/-- bosun/bosunlaw12.PacketBytes -/
@[reducible] def fPBytes : KCode := (.seq (.reg fPBytes_r0) (.seq (.seq (.reg fPBytes_r1) (.cond (.t 7) fPBytes_k0 (.kill [7] .skip))) (.keep [1] (.seq (.reg fPBytes_r3) (.seq (.reg fPBytes_r4) (.seq (.draw fPBytes_r5) .ret))))))
@[reducible] def fPBytes_rs : List IRes := [.tmp 2]
theorem fPBytes_low : lowFunc Try.prog 3 [] [(5, [0, 1, 2, 3, 4, 5, 6, 7, 8, 11, 9, 10, 12, 13, 14, 15, 16, 17, 18, 19, 20, 21, 22, 23, 24, 25, 26])] = some ⟨fPBytes.bare, fPBytes_rs, 41⟩ := by kernel_rfl

@[reducible] def fPParses_r0 : List (DOper × List Nat) := [
  o1 2 (.mv (.k (.bool false))) [2]]
@[reducible] def fPParses_r1 : List (DOper × List Nat) := [
  o1 7 (.call 12 []) [],
  o1 8 (.un .not (.t 7)) [7],
  o1 9 (.mv (.t 8)) [8],
  (⟨⟨(some 10), (some (9, false)), .mv (.t 0)⟩, 0, []⟩, []),
  (⟨⟨(some 11), (some (9, false)), .len true (.t 10)⟩, 0, []⟩, [10]),
  (⟨⟨(some 12), (some (9, false)), .bin false .gtr (.t 11) (.k (.int .i64 500))⟩, 0, []⟩, [11]),
  o1 13 (.pick (.t 9) (.k (.bool true)) (.t 12)) [9, 12]]
@[reducible] def fPParses_r2 : List (DOper × List Nat) := [
  o1 14 (.call 12 []) [],
  o1 2 (.mv (.t 14)) [14]]
@[reducible] def fPParses_k0 : KCode := (.keep [] (.seq (.reg fPParses_r2) .ret))
@[reducible] def fPParses_r3 : List (DOper × List Nat) := [
  o1 16 (.mv (.t 0)) [],
  o1 17 (.call 14 [(.t 16)]) [16],
  o1 15 (.mv (.t 17)) [17],
  o1 18 (.extract 0 (.t 15)) [],
  o1 19 (.extract 1 (.t 15)) [15],
  o1 3 (.alloc 28 [(.int .u32 0), (.int .u8 0), (.int .u32 0), (.int .u32 0), (.int .u8 0), (.int .u8 0), (.int .u8 0), (.int .u8 0), (.int .u8 0), (.int .u8 0), (.int .u8 0), (.int .u8 0), (.int .u8 0), (.int .u8 0), (.int .u8 0), (.int .u8 0), (.int .u8 0), (.int .u8 0), (.int .u8 0), (.int .u8 0), (.int .u8 0), (.int .u8 0), (.int .u8 0), (.int .u8 0), (.int .u8 0), (.int .u8 0), (.int .u8 0), (.int .u8 0), (.int .u8 0), (.int .u8 0), (.int .u8 0), (.int .u8 0), (.int .u8 0), (.int .u8 0), (.int .u8 0), (.int .u8 0), (.int .u8 0), (.int .u8 0), (.int .u8 0), (.int .u8 0), (.int .u8 0), (.int .u8 0), (.int .u8 0), (.int .u8 0), (.int .u8 0), (.int .u8 0), (.int .u8 0), (.int .u8 0), (.int .u8 0), (.int .u8 0), (.int .u8 0), (.int .u8 0), (.int .u8 0), (.int .u8 0), (.int .u8 0), (.int .u8 0), (.int .u8 0), (.int .u8 0), (.int .u8 0), (.int .u8 0), (.int .u8 0), (.int .u8 0), (.int .u8 0), (.int .u8 0), (.int .u8 0), (.int .u8 0), (.int .u8 0), (.int .u8 0), (.int .u8 0), (.int .u8 0), (.int .u8 0), (.int .u8 0), (.int .u8 0), (.int .u8 0), (.int .u8 0), (.int .u8 0), (.int .u8 0), (.int .u8 0), (.int .u8 0), (.int .u8 0), (.int .u8 0), (.int .u8 0), (.int .u8 0), (.int .u8 0), (.int .u8 0), (.int .u8 0), (.int .u8 0), (.int .u8 0), (.int .u8 0), (.int .u8 0), (.int .u8 0), (.int .u8 0), (.int .u8 0), (.int .u8 0), (.int .u8 0), (.int .u8 0), (.int .u8 0), (.int .u8 0), (.int .u8 0), (.int .u8 0)]) [],
  (⟨⟨none, none, .store 100 (.t 3) (.t 18)⟩, 0, []⟩, [18]),
  o1 4 (.mv (.t 19)) [19]]
@[reducible] def fPParses_r4 : List (DOper × List Nat) := [
  o1 21 (.mv (.t 0)) [0],
  o1 22 (.call 19 [(.t 21)]) [21],
  o1 20 (.mv (.t 22)) [22],
  o1 23 (.extract 0 (.t 20)) [],
  o1 24 (.extract 1 (.t 20)) [20],
  o1 5 (.alloc 37 [(.int .u32 0), (.int .u32 0), (.int .u32 0), (.int .u8 0), (.int .u8 0), (.int .u8 0), (.int .u8 0), (.int .u8 0), (.int .u8 0), (.int .u8 0), (.int .u8 0), (.int .u8 0), (.int .u8 0), (.int .u8 0), (.int .u8 0), (.int .u8 0), (.int .u8 0), (.int .u8 0), (.int .u8 0), (.int .u8 0), (.int .u8 0), (.int .u8 0), (.int .u8 0), (.int .u8 0), (.int .u8 0), (.int .u8 0), (.int .u8 0), (.int .u8 0), (.int .u8 0), (.int .u8 0), (.int .u8 0), (.int .u8 0), (.int .u8 0), (.int .u8 0), (.int .u8 0), (.int .u8 0), (.int .u8 0), (.int .u8 0), (.int .u8 0), (.int .u8 0), (.int .u8 0), (.int .u8 0), (.int .u8 0), (.int .u8 0), (.int .u8 0), (.int .u8 0), (.int .u8 0), (.int .u8 0), (.int .u8 0), (.int .u8 0), (.int .u8 0), (.int .u8 0), (.int .u8 0), (.int .u8 0), (.int .u8 0), (.int .u8 0), (.int .u8 0), (.int .u8 0), (.int .u8 0), (.int .u8 0), (.int .u8 0), (.int .u8 0), (.int .u8 0), (.int .u8 0), (.int .u8 0), (.int .u8 0), (.int .u8 0), (.int .u8 0), (.int .u8 0), (.int .u8 0), (.int .u8 0), (.int .u8 0), (.int .u8 0), (.int .u8 0), (.int .u8 0), (.int .u8 0), (.int .u8 0), (.int .u8 0), (.int .u8 0), (.int .u8 0), (.int .u8 0), (.int .u8 0), (.int .u8 0), (.int .u8 0), (.int .u8 0), (.int .u8 0), (.int .u8 0), (.int .u8 0), (.int .u8 0), (.int .u8 0), (.int .u8 0), (.int .u8 0), (.int .u8 0), (.int .u8 0), (.int .u8 0), (.int .u8 0), (.int .u8 0), (.int .u8 0), (.int .u8 0), (.int .u8 0)]) [],
  (⟨⟨none, none, .store 100 (.t 5) (.t 23)⟩, 0, []⟩, [23]),
  o1 6 (.mv (.t 24)) [24]]
@[reducible] def fPParses_r5 : List (DOper × List Nat) := [
  o1 25 (.mv (.t 4)) [4],
  o2 26 1 (.mv (.t 6)) [6],
  o2 27 2 (.bin false .eql (.t 25) (.t 26)) [25, 26],
  o2 28 3 (.mv (.t 27)) [27],
  (⟨⟨(some 29), (some (28, true)), .load (some 100) (.t 3)⟩, 4, []⟩, [3]),
  (⟨⟨(some 31), (some (28, true)), .load (some 100) (.t 5)⟩, 6, []⟩, [5]),
  (⟨⟨(some 30), (some (28, true)), .call 16 [(.t 29)]⟩, 5, [6]⟩, [29]),
  (⟨⟨(some 32), (some (28, true)), .eqA false [.u32, .u32, .u32, .u8, .u8, .u8, .u8, .u8, .u8, .u8, .u8, .u8, .u8, .u8, .u8, .u8, .u8, .u8, .u8, .u8, .u8, .u8, .u8, .u8, .u8, .u8, .u8, .u8, .u8, .u8, .u8, .u8, .u8, .u8, .u8, .u8, .u8, .u8, .u8, .u8, .u8, .u8, .u8, .u8, .u8, .u8, .u8, .u8, .u8, .u8, .u8, .u8, .u8, .u8, .u8, .u8, .u8, .u8, .u8, .u8, .u8, .u8, .u8, .u8, .u8, .u8, .u8, .u8, .u8, .u8, .u8, .u8, .u8, .u8, .u8, .u8, .u8, .u8, .u8, .u8, .u8, .u8, .u8, .u8, .u8, .u8, .u8, .u8, .u8, .u8, .u8, .u8, .u8, .u8, .u8, .u8, .u8, .u8, .u8, .u8] (.t 30) (.t 31)⟩, 7, []⟩, [30, 31]),
  o2 33 8 (.pick (.t 28) (.t 32) (.k (.bool false))) [28, 32],
  o2 2 9 (.mv (.t 33)) [33]]
/-- bosun/bosunlaw12.PacketParses -/
@[reducible] def fPParses : KCode := (.seq (.reg fPParses_r0) (.seq (.seq (.reg fPParses_r1) (.cond (.t 13) fPParses_k0 (.kill [13] .skip))) (.keep [0] (.seq (.reg fPParses_r3) (.seq (.reg fPParses_r4) (.seq (.draw fPParses_r5) .ret))))))
@[reducible] def fPParses_rs : List IRes := [.tmp 2]
theorem fPParses_low : lowFunc Try.prog 4 [] [(5, [0, 1, 2, 3, 4, 6, 5, 7, 8, 9])] = some ⟨fPParses.bare, fPParses_rs, 34⟩ := by kernel_rfl

end Go.Proofs.Ythgibibeoapfbaa
