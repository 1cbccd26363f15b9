/-
  Codes of the functions of chapter 11.
-/
import Derived.Test.YtlffcidcopibmaaFwB
import Derived.Test.YtlffcidcopibmaaRows
set_option linter.unusedSimpArgs false
set_option linter.unusedVariables false
set_option linter.unusedSectionVars false
namespace Go.Proofs.Ytlffcidcopibmaa
open Go.Fw
@[reducible] def fParse_r0 : List (DOper × List Nat) := [
  o1 2 (.mv (.k (.list 1 ⟨true, true, false⟩ []))) [2],
  o1 3 (.mv (.k (.int .i64 0))) [3]]
@[reducible] def fParse_r1 : List (DOper × List Nat) := [
  o1 4 (.mv (.k (.list 1 ⟨true, true, false⟩ []))) []]
@[reducible] def fParse_r2 : List (DOper × List Nat) := [
  o1 5 (.mv (.k (.int .i64 0))) []]
@[reducible] def fParse_r3 : List (DOper × List Nat) := [
  o1 8 (.mv (.t 0)) [],
  o1 9 (.len true (.t 8)) [8],
  o1 10 (.bin false .gtr (.t 9) (.k (.int .i64 0))) [9]]
@[reducible] def fParse_r4 : List (DOper × List Nat) := [
  o1 11 (.mv (.t 0)) [],
  o1 12 (.len true (.t 11)) [11],
  o1 13 (.bin false .lss (.t 12) (.k (.int .i64 2))) [12]]
@[reducible] def fParse_r5 : List (DOper × List Nat) := [
  o1 2 (.mv (.k (.list 1 ⟨true, true, false⟩ []))) [],
  o1 3 (.mv (.k (.int .i64 18))) []]
@[reducible] def fParse_k0 : KCode := (.keep [] (.seq (.reg fParse_r5) .ret))
@[reducible] def fParse_r6 : List (DOper × List Nat) := [
  o1 14 (.mv (.t 0)) [],
  o2 15 1 (.idxS 1 (.t 14) (.k (.int .i64 0))) [14],
  o2 16 2 (.load none (.t 15)) [15],
  o2 17 3 (.convI .i64 (.t 16)) [16],
  o2 18 4 (.mv (.t 0)) [],
  o2 19 5 (.idxS 1 (.t 18) (.k (.int .i64 1))) [18],
  o2 20 6 (.load none (.t 19)) [19],
  o2 21 7 (.convI .i64 (.t 20)) [20],
  o2 6 8 (.mv (.t 17)) [17],
  o2 7 9 (.mv (.t 21)) [21]]
@[reducible] def fParse_r7 : List (DOper × List Nat) := [
  o1 23 (.mv (.t 6)) [],
  o1 24 (.mv (.t 5)) [5],
  o1 25 (.bin false .leq (.t 23) (.t 24)) [23, 24],
  o1 22 (.mv (.t 25)) [25]]
@[reducible] def fParse_r8 : List (DOper × List Nat) := [
  o1 2 (.mv (.k (.list 1 ⟨true, true, false⟩ []))) [],
  o1 3 (.mv (.k (.int .i64 7))) []]
@[reducible] def fParse_r9 : List (DOper × List Nat) := [
  o1 27 (.mv (.t 7)) [],
  o1 28 (.bin false .gtr (.t 27) (.k (.int .i64 200))) [27],
  o1 29 (.mv (.t 28)) [28],
  (⟨⟨(some 30), (some (29, false)), .mv (.t 4)⟩, 0, []⟩, []),
  (⟨⟨(some 31), (some (29, false)), .len true (.t 30)⟩, 0, []⟩, [30]),
  (⟨⟨(some 32), (some (29, false)), .bin false .eql (.t 31) (.k (.int .i64 16))⟩, 0, []⟩, [31]),
  o1 33 (.pick (.t 29) (.k (.bool true)) (.t 32)) [29, 32],
  o1 26 (.mv (.t 33)) [33]]
@[reducible] def fParse_r10 : List (DOper × List Nat) := [
  o1 2 (.mv (.k (.list 1 ⟨true, true, false⟩ []))) [],
  o1 3 (.mv (.k (.int .i64 17))) []]
@[reducible] def fParse_r11 : List (DOper × List Nat) := [
  o1 35 (.mv (.t 0)) [],
  o1 36 (.len true (.t 35)) [35],
  o1 37 (.mv (.t 7)) [],
  o1 38 (.bin false .add (.k (.int .i64 2)) (.t 37)) [37],
  o1 39 (.bin false .lss (.t 36) (.t 38)) [36, 38],
  o1 34 (.mv (.t 39)) [39]]
@[reducible] def fParse_r12 : List (DOper × List Nat) := [
  o1 2 (.mv (.k (.list 1 ⟨true, true, false⟩ []))) [],
  o1 3 (.mv (.k (.int .i64 18))) []]
@[reducible] def fParse_k1 : KCode := (.keep [] (.seq (.reg fParse_r12) .ret))
@[reducible] def fParse_k2 : KCode := (.keep [] (.seq (.reg fParse_r10) .ret))
@[reducible] def fParse_k3 : KCode := (.kill [26] (.seq (.reg fParse_r11) (.cond (.t 34) fParse_k1 (.kill [34] .skip))))
@[reducible] def fParse_k4 : KCode := (.keep [] (.seq (.reg fParse_r8) .ret))
@[reducible] def fParse_k5 : KCode := (.kill [22] (.seq (.reg fParse_r9) (.cond (.t 26) fParse_k2 fParse_k3)))
@[reducible] def fParse_r13 : List (DOper × List Nat) := [
  o1 40 (.mv (.t 4)) [4],
  o2 41 1 (.mv (.t 0)) [],
  o2 42 2 (.idxS 1 (.t 41) (.k (.int .i64 0))) [41],
  o2 43 3 (.load none (.t 42)) [42],
  o2 44 4 (.buildF 5 1 [] []) [],
  o2 45 5 (.mv (.t 0)) [],
  o2 46 6 (.mv (.t 7)) [],
  o2 47 7 (.bin false .add (.k (.int .i64 2)) (.t 46)) [46],
  o2 48 8 (.mv (.t 7)) [],
  o2 49 9 (.bin false .add (.k (.int .i64 2)) (.t 48)) [48],
  o2 50 10 (.slS 1 (.t 45) (some (.k (.int .i64 2))) (some (.t 47)) (some (.t 49))) [45, 47, 49],
  o2 51 11 (.appF 5 1 1 (.t 44) (.t 50)) [44, 50],
  o2 52 12 (.build [(.int .u8 0), (.list 1 ⟨true, true, false⟩ [])] [(0, 1, (.t 43)), (1, 1, (.t 51))]) [43, 51],
  o2 53 13 (.buildF 39 2 [(.int .u8 0), (.list 1 ⟨true, true, false⟩ [])] [(0, 2, (.t 52))]) [52],
  o2 54 14 (.appO 39 2 32 (.t 40) (.t 53)) [40, 53],
  o2 4 15 (.mv (.t 54)) [54]]
@[reducible] def fParse_r14 : List (DOper × List Nat) := [
  o1 55 (.mv (.t 0)) [0],
  o1 56 (.mv (.t 7)) [7],
  o1 57 (.bin false .add (.k (.int .i64 2)) (.t 56)) [56],
  o1 58 (.slS 1 (.t 55) (some (.t 57)) none none) [55, 57],
  o1 59 (.mv (.t 6)) [6],
  o1 0 (.mv (.t 58)) [58],
  o1 5 (.mv (.t 59)) [59]]
/-- live: [0, 4, 5] -/
@[reducible] def fParse_l6 : KCode := (.seq (.seq (.reg fParse_r3) (.cond (.t 10) (.kill [10] .skip) (.keep [4] (.exit 0)))) (.kill [8, 9, 10] (.block 1 (.seq (.seq (.reg fParse_r4) (.cond (.t 13) fParse_k0 (.kill [13] .skip))) (.keep [0, 4, 5] (.seq (.draw fParse_r6) (.seq (.block 2 (.seq (.reg fParse_r7) (.cond (.t 22) fParse_k4 fParse_k5))) (.keep [0, 4, 6, 7] (.seq (.draw fParse_r13) (.reg fParse_r14))))))))))
@[reducible] def fParse_r15 : List (DOper × List Nat) := [
  o1 60 (.mv (.t 4)) [4],
  o1 2 (.mv (.t 60)) [60],
  o1 3 (.mv (.k (.int .i64 0))) []]
/-- bosun/tlv.Parse -/
@[reducible] def fParse : KCode := (.seq (.reg fParse_r0) (.seq (.reg fParse_r1) (.seq (.reg fParse_r2) (.seq (.block 0 (.loop fParse_l6)) (.keep [4] (.seq (.reg fParse_r15) .ret))))))
@[reducible] def fParse_rs : List IRes := [.tmp 2, .tmp 3]
theorem fParse_low : lowFunc Try.prog 12 [(13, 11)] [] = some ⟨fParse.bare, fParse_rs, 61⟩ := by kernel_rfl

@[reducible] def fRParse_r0 : List (DOper × List Nat) := [
  o1 2 (.mv (.k (.list 1 ⟨true, true, false⟩ []))) [2],
  o1 3 (.mv (.k (.int .i64 0))) [3]]
@[reducible] def fRParse_r1 : List (DOper × List Nat) := [
  o1 4 (.mv (.k (.list 1 ⟨true, true, false⟩ []))) []]
@[reducible] def fRParse_r2 : List (DOper × List Nat) := [
  o1 5 (.mv (.k (.int .i64 0))) []]
@[reducible] def fRParse_r3 : List (DOper × List Nat) := [
  o1 7 (.mv (.t 5)) [],
  o1 8 (.mv (.t 0)) [],
  o1 9 (.len true (.t 8)) [8],
  o1 10 (.bin false .lss (.t 7) (.t 9)) [7, 9]]
@[reducible] def fRParse_r4 : List (DOper × List Nat) := [
  o1 11 (.mv (.t 5)) [],
  o1 12 (.bin false .add (.t 11) (.k (.int .i64 1))) [11],
  o1 13 (.mv (.t 0)) [],
  o1 14 (.len true (.t 13)) [13],
  o1 15 (.bin false .eql (.t 12) (.t 14)) [12, 14]]
@[reducible] def fRParse_r5 : List (DOper × List Nat) := [
  o1 2 (.mv (.k (.list 1 ⟨true, true, false⟩ []))) [],
  o1 3 (.mv (.k (.int .i64 18))) []]
@[reducible] def fRParse_k0 : KCode := (.keep [] (.seq (.reg fRParse_r5) .ret))
@[reducible] def fRParse_r6 : List (DOper × List Nat) := [
  o1 16 (.mv (.t 0)) [],
  o1 17 (.mv (.t 5)) [],
  o1 18 (.bin false .add (.t 17) (.k (.int .i64 1))) [17],
  o1 19 (.idxS 1 (.t 16) (.t 18)) [16, 18],
  o1 20 (.load none (.t 19)) [19],
  o1 21 (.convI .i64 (.t 20)) [20],
  o1 6 (.mv (.t 21)) [21]]
@[reducible] def fRParse_r7 : List (DOper × List Nat) := [
  o1 22 (.mv (.t 0)) [],
  o2 23 1 (.mv (.t 5)) [],
  o2 24 2 (.idxS 1 (.t 22) (.t 23)) [22, 23],
  o2 25 3 (.load none (.t 24)) [24],
  o2 26 4 (.bin false .eql (.t 25) (.k (.int .u8 0))) [25],
  o2 27 5 (.mv (.t 26)) [26],
  (⟨⟨(some 28), (some (27, false)), .mv (.t 4)⟩, 6, []⟩, []),
  (⟨⟨(some 29), (some (27, false)), .len true (.t 28)⟩, 7, []⟩, [28]),
  (⟨⟨(some 30), (some (27, false)), .bin false .gtr (.t 29) (.k (.int .i64 0))⟩, 8, []⟩, [29]),
  (⟨⟨(some 31), (some (27, false)), .mv (.t 30)⟩, 9, []⟩, [30]),
  (⟨⟨(some 32), (some (31, true)), .mv (.t 0)⟩, 10, []⟩, []),
  (⟨⟨(some 33), (some (31, true)), .mv (.t 5)⟩, 11, []⟩, []),
  (⟨⟨(some 34), (some (31, true)), .idxS 1 (.t 32) (.t 33)⟩, 12, []⟩, [32, 33]),
  (⟨⟨(some 35), (some (31, true)), .load none (.t 34)⟩, 13, []⟩, [34]),
  (⟨⟨(some 36), (some (31, true)), .mv (.t 4)⟩, 14, []⟩, []),
  (⟨⟨(some 37), (some (31, true)), .mv (.t 4)⟩, 15, []⟩, []),
  (⟨⟨(some 38), (some (31, true)), .len true (.t 37)⟩, 16, []⟩, [37]),
  (⟨⟨(some 39), (some (31, true)), .bin false .sub (.t 38) (.k (.int .i64 1))⟩, 17, []⟩, [38]),
  (⟨⟨(some 40), (some (31, true)), .idxS 2 (.t 36) (.t 39)⟩, 18, []⟩, [36, 39]),
  (⟨⟨(some 41), (some (31, true)), .fieldAddr 0 (.t 40)⟩, 19, []⟩, [40]),
  (⟨⟨(some 42), (some (31, true)), .load none (.t 41)⟩, 20, []⟩, [41]),
  (⟨⟨(some 43), (some (31, true)), .bin false .leq (.t 35) (.t 42)⟩, 21, []⟩, [35, 42]),
  (⟨⟨(some 44), (some (27, false)), .pick (.t 31) (.t 43) (.k (.bool false))⟩, 22, []⟩, [31, 43]),
  o2 45 23 (.pick (.t 27) (.k (.bool true)) (.t 44)) [27, 44]]
@[reducible] def fRParse_r8 : List (DOper × List Nat) := [
  o1 2 (.mv (.k (.list 1 ⟨true, true, false⟩ []))) [],
  o1 3 (.mv (.k (.int .i64 7))) []]
@[reducible] def fRParse_k1 : KCode := (.keep [] (.seq (.reg fRParse_r8) .ret))
@[reducible] def fRParse_r9 : List (DOper × List Nat) := [
  o1 46 (.mv (.t 6)) [],
  o1 47 (.bin false .gtr (.t 46) (.k (.int .i64 200))) [46],
  o1 48 (.mv (.t 47)) [47],
  (⟨⟨(some 49), (some (48, false)), .mv (.t 4)⟩, 0, []⟩, []),
  (⟨⟨(some 50), (some (48, false)), .len true (.t 49)⟩, 0, []⟩, [49]),
  (⟨⟨(some 51), (some (48, false)), .bin false .geq (.t 50) (.k (.int .i64 16))⟩, 0, []⟩, [50]),
  o1 52 (.pick (.t 48) (.k (.bool true)) (.t 51)) [48, 51]]
@[reducible] def fRParse_r10 : List (DOper × List Nat) := [
  o1 2 (.mv (.k (.list 1 ⟨true, true, false⟩ []))) [],
  o1 3 (.mv (.k (.int .i64 17))) []]
@[reducible] def fRParse_k2 : KCode := (.keep [] (.seq (.reg fRParse_r10) .ret))
@[reducible] def fRParse_r11 : List (DOper × List Nat) := [
  o1 53 (.mv (.t 5)) [],
  o1 54 (.bin false .add (.t 53) (.k (.int .i64 2))) [53],
  o1 55 (.mv (.t 6)) [],
  o1 56 (.bin false .add (.t 54) (.t 55)) [54, 55],
  o1 57 (.mv (.t 0)) [],
  o1 58 (.len true (.t 57)) [57],
  o1 59 (.bin false .gtr (.t 56) (.t 58)) [56, 58]]
@[reducible] def fRParse_r12 : List (DOper × List Nat) := [
  o1 2 (.mv (.k (.list 1 ⟨true, true, false⟩ []))) [],
  o1 3 (.mv (.k (.int .i64 18))) []]
@[reducible] def fRParse_k3 : KCode := (.keep [] (.seq (.reg fRParse_r12) .ret))
@[reducible] def fRParse_r13 : List (DOper × List Nat) := [
  o1 60 (.mv (.t 4)) [4],
  o2 61 1 (.mv (.t 0)) [],
  o2 62 2 (.mv (.t 5)) [],
  o2 63 3 (.idxS 1 (.t 61) (.t 62)) [61, 62],
  o2 64 4 (.load none (.t 63)) [63],
  o2 65 5 (.buildF 5 1 [] []) [],
  o2 66 6 (.mv (.t 0)) [],
  o2 67 7 (.mv (.t 5)) [],
  o2 68 8 (.bin false .add (.t 67) (.k (.int .i64 2))) [67],
  o2 69 9 (.mv (.t 5)) [],
  o2 70 10 (.bin false .add (.t 69) (.k (.int .i64 2))) [69],
  o2 71 11 (.mv (.t 6)) [],
  o2 72 12 (.bin false .add (.t 70) (.t 71)) [70, 71],
  o2 73 13 (.slS 1 (.t 66) (some (.t 68)) (some (.t 72)) none) [66, 68, 72],
  o2 74 14 (.appF 5 1 1 (.t 65) (.t 73)) [65, 73],
  o2 75 15 (.build [(.int .u8 0), (.list 1 ⟨true, true, false⟩ [])] [(0, 1, (.t 64)), (1, 1, (.t 74))]) [64, 74],
  o2 76 16 (.buildF 37 2 [(.int .u8 0), (.list 1 ⟨true, true, false⟩ [])] [(0, 2, (.t 75))]) [75],
  o2 77 17 (.appO 37 2 32 (.t 60) (.t 76)) [60, 76],
  o2 4 18 (.mv (.t 77)) [77]]
@[reducible] def fRParse_r14 : List (DOper × List Nat) := [
  o1 78 (.mv (.t 5)) [5],
  o1 79 (.mv (.t 6)) [6],
  o1 80 (.bin false .add (.k (.int .i64 2)) (.t 79)) [79],
  o1 81 (.bin false .add (.t 78) (.t 80)) [78, 80],
  o1 5 (.mv (.t 81)) [81]]
/-- live: [0, 4, 5] -/
@[reducible] def fRParse_l4 : KCode := (.seq (.seq (.reg fRParse_r3) (.cond (.t 10) (.kill [10] .skip) (.keep [4] (.exit 0)))) (.keep [0, 4, 5] (.block 1 (.seq (.seq (.reg fRParse_r4) (.cond (.t 15) fRParse_k0 (.kill [15] .skip))) (.keep [0, 4, 5] (.seq (.reg fRParse_r6) (.seq (.seq (.draw fRParse_r7) (.cond (.t 45) fRParse_k1 (.kill [45] .skip))) (.keep [0, 4, 5, 6] (.seq (.seq (.reg fRParse_r9) (.cond (.t 52) fRParse_k2 (.kill [52] .skip))) (.keep [0, 4, 5, 6] (.seq (.seq (.reg fRParse_r11) (.cond (.t 59) fRParse_k3 (.kill [59] .skip))) (.keep [0, 4, 5, 6] (.seq (.draw fRParse_r13) (.reg fRParse_r14))))))))))))))
@[reducible] def fRParse_r15 : List (DOper × List Nat) := [
  o1 82 (.mv (.t 4)) [4],
  o1 2 (.mv (.t 82)) [82],
  o1 3 (.mv (.k (.int .i64 0))) []]
/-- bosun/bosunref11.Parse -/
@[reducible] def fRParse : KCode := (.seq (.reg fRParse_r0) (.seq (.reg fRParse_r1) (.seq (.reg fRParse_r2) (.seq (.block 0 (.loop fRParse_l4)) (.keep [4] (.seq (.reg fRParse_r15) .ret))))))
@[reducible] def fRParse_rs : List IRes := [.tmp 2, .tmp 3]
theorem fRParse_low : lowFunc Try.prog 13 [(13, 14)] [] = some ⟨fRParse.bare, fRParse_rs, 83⟩ := by kernel_rfl

@[reducible] def fSame_r0 : List (DOper × List Nat) := [
  o1 4 (.mv (.k (.bool false))) [4]]
@[reducible] def fSame_r1 : List (DOper × List Nat) := [
  o1 6 (.mv (.t 0)) [],
  o1 7 (.len true (.t 6)) [6],
  o1 8 (.mv (.t 1)) [],
  o1 9 (.len true (.t 8)) [8],
  o1 10 (.bin false .neq (.t 7) (.t 9)) [7, 9]]
@[reducible] def fSame_r2 : List (DOper × List Nat) := [
  o1 4 (.mv (.k (.bool false))) []]
@[reducible] def fSame_k0 : KCode := (.keep [] (.seq (.reg fSame_r2) .ret))
@[reducible] def fSame_r3 : List (DOper × List Nat) := [
  o1 11 (.mv (.t 0)) [],
  o1 12 (.len true (.t 11)) [11],
  o1 13 (.mv (.k (.int .i64 0))) []]
@[reducible] def fSame_r4 : List (DOper × List Nat) := [
  o1 14 (.bin false .lss (.t 13) (.t 12)) []]
@[reducible] def fSame_r5 : List (DOper × List Nat) := [
  o1 15 (.mv (.t 13)) [],
  o1 5 (.mv (.t 15)) [15]]
@[reducible] def fSame_r6 : List (DOper × List Nat) := [
  o1 16 (.mv (.t 0)) [],
  o2 17 1 (.mv (.t 5)) [],
  o2 18 2 (.idxS 2 (.t 16) (.t 17)) [16, 17],
  o2 19 3 (.fieldAddr 0 (.t 18)) [18],
  o2 20 4 (.load none (.t 19)) [19],
  o2 21 5 (.mv (.t 1)) [],
  o2 22 6 (.mv (.t 5)) [],
  o2 23 7 (.idxS 2 (.t 21) (.t 22)) [21, 22],
  o2 24 8 (.fieldAddr 0 (.t 23)) [23],
  o2 25 9 (.load none (.t 24)) [24],
  o2 26 10 (.bin false .neq (.t 20) (.t 25)) [20, 25],
  o2 27 11 (.mv (.t 26)) [26],
  (⟨⟨(some 28), (some (27, false)), .mv (.t 0)⟩, 12, []⟩, []),
  (⟨⟨(some 29), (some (27, false)), .mv (.t 5)⟩, 13, []⟩, []),
  (⟨⟨(some 30), (some (27, false)), .idxS 2 (.t 28) (.t 29)⟩, 14, []⟩, [28, 29]),
  (⟨⟨(some 31), (some (27, false)), .fieldAddr 1 (.t 30)⟩, 15, []⟩, [30]),
  (⟨⟨(some 32), (some (27, false)), .load none (.t 31)⟩, 16, []⟩, [31]),
  (⟨⟨(some 33), (some (27, false)), .toStr (.t 32)⟩, 17, []⟩, [32]),
  (⟨⟨(some 34), (some (27, false)), .mv (.t 1)⟩, 18, []⟩, []),
  (⟨⟨(some 35), (some (27, false)), .mv (.t 5)⟩, 19, []⟩, [5]),
  (⟨⟨(some 36), (some (27, false)), .idxS 2 (.t 34) (.t 35)⟩, 20, []⟩, [34, 35]),
  (⟨⟨(some 37), (some (27, false)), .fieldAddr 1 (.t 36)⟩, 21, []⟩, [36]),
  (⟨⟨(some 38), (some (27, false)), .load none (.t 37)⟩, 22, []⟩, [37]),
  (⟨⟨(some 39), (some (27, false)), .toStr (.t 38)⟩, 23, []⟩, [38]),
  (⟨⟨(some 40), (some (27, false)), .bin false .neq (.t 33) (.t 39)⟩, 24, []⟩, [33, 39]),
  o2 41 25 (.pick (.t 27) (.k (.bool true)) (.t 40)) [27, 40]]
@[reducible] def fSame_r7 : List (DOper × List Nat) := [
  o1 4 (.mv (.k (.bool false))) []]
@[reducible] def fSame_k1 : KCode := (.keep [] (.seq (.reg fSame_r7) .ret))
@[reducible] def fSame_r8 : List (DOper × List Nat) := [
  o1 42 (.bin false .add (.t 13) (.k (.int .i64 1))) [13],
  o1 13 (.mv (.t 42)) [42]]
/-- live: [0, 1, 12, 13] -/
@[reducible] def fSame_l2 : KCode := (.seq (.reg fSame_r4) (.seq (.cond (.t 14) (.kill [14] .skip) (.keep [] (.exit 0))) (.kill [14] (.seq (.block 1 (.seq (.reg fSame_r5) (.seq (.draw fSame_r6) (.cond (.t 41) fSame_k1 (.kill [41] .skip))))) (.keep [0, 1, 12, 13] (.reg fSame_r8))))))
@[reducible] def fSame_r9 : List (DOper × List Nat) := [
  o1 4 (.mv (.k (.bool true))) []]
/-- bosun/bosunlaw11.same -/
@[reducible] def fSame : KCode := (.seq (.reg fSame_r0) (.seq (.seq (.reg fSame_r1) (.cond (.t 10) fSame_k0 (.kill [10] .skip))) (.keep [0, 1] (.seq (.seq (.reg fSame_r3) (.block 0 (.loop fSame_l2))) (.keep [] (.seq (.reg fSame_r9) .ret))))))
@[reducible] def fSame_rs : List IRes := [.tmp 4]
theorem fSame_low : lowFunc Try.prog 14 [] [] = some ⟨fSame.bare, fSame_rs, 43⟩ := by kernel_rfl

@[reducible] def fEncode_r0 : List (DOper × List Nat) := [
  o1 2 (.mv (.k (.list 1 ⟨true, true, false⟩ []))) [2],
  o1 3 (.mv (.k (.int .i64 0))) [3]]
@[reducible] def fEncode_r1 : List (DOper × List Nat) := [
  o1 4 (.mv (.k (.list 1 ⟨true, true, false⟩ []))) []]
@[reducible] def fEncode_r2 : List (DOper × List Nat) := [
  o1 5 (.mv (.k (.int .u8 0))) []]
@[reducible] def fEncode_r3 : List (DOper × List Nat) := [
  o1 8 (.mv (.t 0)) [0],
  o1 9 (.len true (.t 8)) [],
  o1 10 (.mv (.k (.int .i64 0))) []]
@[reducible] def fEncode_r4 : List (DOper × List Nat) := [
  o1 11 (.bin false .lss (.t 10) (.t 9)) []]
@[reducible] def fEncode_r5 : List (DOper × List Nat) := [
  o1 12 (.mv (.t 10)) [],
  o1 13 (.idxS 2 (.t 8) (.t 10)) [],
  o1 14 (.load (some 2) (.t 13)) [13],
  o1 7 (.alloc 39 [(.int .u8 0), (.list 1 ⟨true, true, false⟩ [])]) [],
  o1 6 (.mv (.t 12)) [12],
  (⟨⟨none, none, .store 2 (.t 7) (.t 14)⟩, 0, []⟩, [14])]
@[reducible] def fEncode_r6 : List (DOper × List Nat) := [
  o1 16 (.fieldAddr 0 (.t 7)) [],
  o1 17 (.load none (.t 16)) [16],
  o1 18 (.mv (.t 5)) [5],
  o1 19 (.bin false .leq (.t 17) (.t 18)) [17, 18],
  o1 15 (.mv (.t 19)) [19]]
@[reducible] def fEncode_r7 : List (DOper × List Nat) := [
  o1 2 (.mv (.k (.list 1 ⟨true, true, false⟩ []))) [],
  o1 3 (.mv (.k (.int .i64 7))) []]
@[reducible] def fEncode_r8 : List (DOper × List Nat) := [
  o1 21 (.fieldAddr 1 (.t 7)) [],
  o1 22 (.load none (.t 21)) [21],
  o1 23 (.len true (.t 22)) [22],
  o1 24 (.bin false .gtr (.t 23) (.k (.int .i64 200))) [23],
  o1 25 (.mv (.t 24)) [24],
  (⟨⟨(some 26), (some (25, false)), .mv (.t 6)⟩, 0, []⟩, [6]),
  (⟨⟨(some 27), (some (25, false)), .bin false .eql (.t 26) (.k (.int .i64 16))⟩, 0, []⟩, [26]),
  o1 28 (.pick (.t 25) (.k (.bool true)) (.t 27)) [25, 27],
  o1 20 (.mv (.t 28)) [28]]
@[reducible] def fEncode_r9 : List (DOper × List Nat) := [
  o1 2 (.mv (.k (.list 1 ⟨true, true, false⟩ []))) [],
  o1 3 (.mv (.k (.int .i64 17))) []]
@[reducible] def fEncode_k0 : KCode := (.keep [] (.seq (.reg fEncode_r9) .ret))
@[reducible] def fEncode_k1 : KCode := (.keep [] (.seq (.reg fEncode_r7) .ret))
@[reducible] def fEncode_k2 : KCode := (.kill [15] (.seq (.reg fEncode_r8) (.cond (.t 20) fEncode_k0 (.kill [20] .skip))))
@[reducible] def fEncode_r10 : List (DOper × List Nat) := [
  o1 29 (.mv (.t 4)) [4],
  o2 30 1 (.fieldAddr 0 (.t 7)) [],
  o2 31 2 (.load none (.t 30)) [30],
  o2 32 3 (.fieldAddr 1 (.t 7)) [],
  o2 33 4 (.load none (.t 32)) [32],
  o2 34 5 (.len true (.t 33)) [33],
  o2 35 6 (.convI .u8 (.t 34)) [34],
  o2 36 7 (.buildF 5 1 [(.int .u8 0), (.int .u8 0)] [(0, 1, (.t 31)), (1, 1, (.t 35))]) [31, 35],
  o2 38 9 (.fieldAddr 1 (.t 7)) [],
  o2 39 10 (.load none (.t 38)) [38],
  (⟨⟨(some 37), none, .appO 5 1 1 (.t 29) (.t 36)⟩, 8, [10]⟩, [29, 36]),
  o2 40 11 (.appO 5 1 1 (.t 37) (.t 39)) [37, 39],
  o2 4 12 (.mv (.t 40)) [40]]
@[reducible] def fEncode_r11 : List (DOper × List Nat) := [
  o1 41 (.fieldAddr 0 (.t 7)) [7],
  o1 42 (.load none (.t 41)) [41],
  o1 5 (.mv (.t 42)) [42]]
@[reducible] def fEncode_r12 : List (DOper × List Nat) := [
  o1 43 (.bin false .add (.t 10) (.k (.int .i64 1))) [10],
  o1 10 (.mv (.t 43)) [43]]
/-- live: [4, 5, 8, 9, 10] -/
@[reducible] def fEncode_l3 : KCode := (.seq (.reg fEncode_r4) (.seq (.cond (.t 11) (.kill [11] .skip) (.keep [4] (.exit 0))) (.kill [11] (.seq (.block 1 (.seq (.reg fEncode_r5) (.seq (.block 2 (.seq (.reg fEncode_r6) (.cond (.t 15) fEncode_k1 fEncode_k2))) (.keep [4, 7, 8, 9, 10] (.seq (.draw fEncode_r10) (.reg fEncode_r11)))))) (.keep [4, 5, 8, 9, 10] (.reg fEncode_r12))))))
@[reducible] def fEncode_r13 : List (DOper × List Nat) := [
  o1 44 (.mv (.t 4)) [4],
  o1 2 (.mv (.t 44)) [44],
  o1 3 (.mv (.k (.int .i64 0))) []]
/-- bosun/tlv.Encode -/
@[reducible] def fEncode : KCode := (.seq (.reg fEncode_r0) (.seq (.reg fEncode_r1) (.seq (.reg fEncode_r2) (.seq (.seq (.reg fEncode_r3) (.block 0 (.loop fEncode_l3))) (.keep [4] (.seq (.reg fEncode_r13) .ret))))))
@[reducible] def fEncode_rs : List IRes := [.tmp 2, .tmp 3]
theorem fEncode_low : lowFunc Try.prog 15 [] [(10, [0, 1, 2, 3, 4, 5, 6, 7, 9, 10, 8, 11, 12])] = some ⟨fEncode.bare, fEncode_rs, 45⟩ := by kernel_rfl

@[reducible] def fFind_r0 : List (DOper × List Nat) := [
  o1 4 (.mv (.k (.list 1 ⟨true, true, false⟩ []))) [4],
  o1 5 (.mv (.k (.bool false))) [5]]
@[reducible] def fFind_r1 : List (DOper × List Nat) := [
  o1 8 (.mv (.t 0)) [0],
  o1 9 (.len true (.t 8)) [],
  o1 10 (.mv (.k (.int .i64 0))) []]
@[reducible] def fFind_r2 : List (DOper × List Nat) := [
  o1 11 (.bin false .lss (.t 10) (.t 9)) []]
@[reducible] def fFind_r3 : List (DOper × List Nat) := [
  o1 12 (.idxS 2 (.t 8) (.t 10)) [],
  o1 13 (.load (some 2) (.t 12)) [12],
  o1 7 (.alloc 39 [(.int .u8 0), (.list 1 ⟨true, true, false⟩ [])]) [],
  (⟨⟨none, none, .store 2 (.t 7) (.t 13)⟩, 0, []⟩, [13])]
@[reducible] def fFind_r4 : List (DOper × List Nat) := [
  o1 14 (.fieldAddr 0 (.t 7)) [],
  o1 15 (.load none (.t 14)) [14],
  o1 16 (.mv (.t 1)) [],
  o1 17 (.bin false .eql (.t 15) (.t 16)) [15, 16]]
@[reducible] def fFind_r5 : List (DOper × List Nat) := [
  o1 18 (.buildF 5 1 [] []) [],
  o1 19 (.fieldAddr 1 (.t 7)) [7],
  o1 20 (.load none (.t 19)) [19],
  o1 21 (.appF 5 1 1 (.t 18) (.t 20)) [18, 20],
  o1 4 (.mv (.t 21)) [21],
  o1 5 (.mv (.k (.bool true))) []]
@[reducible] def fFind_k0 : KCode := (.keep [7] (.seq (.reg fFind_r5) .ret))
@[reducible] def fFind_r6 : List (DOper × List Nat) := [
  o1 22 (.bin false .add (.t 10) (.k (.int .i64 1))) [10],
  o1 10 (.mv (.t 22)) [22]]
/-- live: [1, 8, 9, 10] -/
@[reducible] def fFind_l1 : KCode := (.seq (.reg fFind_r2) (.seq (.cond (.t 11) (.kill [11] .skip) (.keep [] (.exit 0))) (.kill [11] (.seq (.block 1 (.seq (.reg fFind_r3) (.seq (.reg fFind_r4) (.cond (.t 17) fFind_k0 (.kill [7, 17] .skip))))) (.keep [1, 8, 9, 10] (.reg fFind_r6))))))
@[reducible] def fFind_r7 : List (DOper × List Nat) := [
  o1 4 (.mv (.k (.list 1 ⟨true, true, false⟩ []))) [],
  o1 5 (.mv (.k (.bool false))) []]
/-- bosun/tlv.Find -/
@[reducible] def fFind : KCode := (.seq (.reg fFind_r0) (.seq (.seq (.reg fFind_r1) (.block 0 (.loop fFind_l1))) (.keep [] (.seq (.reg fFind_r7) .ret))))
@[reducible] def fFind_rs : List IRes := [.tmp 4, .tmp 5]
theorem fFind_low : lowFunc Try.prog 16 [(5, 3)] [] = some ⟨fFind.bare, fFind_rs, 23⟩ := by kernel_rfl

@[reducible] def fREncode_r0 : List (DOper × List Nat) := [
  o1 2 (.mv (.k (.list 1 ⟨true, true, false⟩ []))) [2],
  o1 3 (.mv (.k (.int .i64 0))) [3]]
@[reducible] def fREncode_r1 : List (DOper × List Nat) := [
  o1 4 (.mv (.k (.list 1 ⟨true, true, false⟩ []))) []]
@[reducible] def fREncode_r2 : List (DOper × List Nat) := [
  o1 5 (.mv (.k (.int .i64 0))) []]
@[reducible] def fREncode_r3 : List (DOper × List Nat) := [
  o1 6 (.mv (.t 5)) [],
  o1 7 (.mv (.t 0)) [],
  o1 8 (.len true (.t 7)) [7],
  o1 9 (.bin false .lss (.t 6) (.t 8)) [6, 8]]
@[reducible] def fREncode_r4 : List (DOper × List Nat) := [
  o1 12 (.mv (.t 0)) [],
  o2 13 1 (.mv (.t 5)) [],
  o2 14 2 (.idxS 2 (.t 12) (.t 13)) [12, 13],
  o2 15 3 (.fieldAddr 0 (.t 14)) [14],
  o2 16 4 (.load none (.t 15)) [15],
  o2 17 5 (.bin false .eql (.t 16) (.k (.int .u8 0))) [16],
  o2 18 6 (.mv (.t 17)) [17],
  (⟨⟨(some 19), (some (18, false)), .mv (.t 5)⟩, 7, []⟩, []),
  (⟨⟨(some 20), (some (18, false)), .bin false .gtr (.t 19) (.k (.int .i64 0))⟩, 8, []⟩, [19]),
  (⟨⟨(some 21), (some (18, false)), .mv (.t 20)⟩, 9, []⟩, [20]),
  (⟨⟨(some 22), (some (21, true)), .mv (.t 0)⟩, 10, []⟩, []),
  (⟨⟨(some 23), (some (21, true)), .mv (.t 5)⟩, 11, []⟩, []),
  (⟨⟨(some 24), (some (21, true)), .idxS 2 (.t 22) (.t 23)⟩, 12, []⟩, [22, 23]),
  (⟨⟨(some 25), (some (21, true)), .fieldAddr 0 (.t 24)⟩, 13, []⟩, [24]),
  (⟨⟨(some 26), (some (21, true)), .load none (.t 25)⟩, 14, []⟩, [25]),
  (⟨⟨(some 27), (some (21, true)), .mv (.t 0)⟩, 15, []⟩, []),
  (⟨⟨(some 28), (some (21, true)), .mv (.t 5)⟩, 16, []⟩, []),
  (⟨⟨(some 29), (some (21, true)), .bin false .sub (.t 28) (.k (.int .i64 1))⟩, 17, []⟩, [28]),
  (⟨⟨(some 30), (some (21, true)), .idxS 2 (.t 27) (.t 29)⟩, 18, []⟩, [27, 29]),
  (⟨⟨(some 31), (some (21, true)), .fieldAddr 0 (.t 30)⟩, 19, []⟩, [30]),
  (⟨⟨(some 32), (some (21, true)), .load none (.t 31)⟩, 20, []⟩, [31]),
  (⟨⟨(some 33), (some (21, true)), .bin false .leq (.t 26) (.t 32)⟩, 21, []⟩, [26, 32]),
  (⟨⟨(some 34), (some (18, false)), .pick (.t 21) (.t 33) (.k (.bool false))⟩, 22, []⟩, [21, 33]),
  o2 35 23 (.pick (.t 18) (.k (.bool true)) (.t 34)) [18, 34]]
@[reducible] def fREncode_r5 : List (DOper × List Nat) := [
  o1 2 (.mv (.k (.list 1 ⟨true, true, false⟩ []))) [],
  o1 3 (.mv (.k (.int .i64 7))) []]
@[reducible] def fREncode_k0 : KCode := (.keep [] (.seq (.reg fREncode_r5) .ret))
@[reducible] def fREncode_r6 : List (DOper × List Nat) := [
  o1 36 (.mv (.t 0)) [],
  o1 37 (.mv (.t 5)) [],
  o1 38 (.idxS 2 (.t 36) (.t 37)) [36, 37],
  o1 39 (.fieldAddr 1 (.t 38)) [38],
  o1 40 (.load none (.t 39)) [39],
  o1 41 (.len true (.t 40)) [40],
  o1 42 (.bin false .gtr (.t 41) (.k (.int .i64 200))) [41],
  o1 43 (.mv (.t 42)) [42],
  (⟨⟨(some 44), (some (43, false)), .mv (.t 5)⟩, 0, []⟩, []),
  (⟨⟨(some 45), (some (43, false)), .bin false .geq (.t 44) (.k (.int .i64 16))⟩, 0, []⟩, [44]),
  o1 46 (.pick (.t 43) (.k (.bool true)) (.t 45)) [43, 45]]
@[reducible] def fREncode_r7 : List (DOper × List Nat) := [
  o1 2 (.mv (.k (.list 1 ⟨true, true, false⟩ []))) [],
  o1 3 (.mv (.k (.int .i64 17))) []]
@[reducible] def fREncode_k1 : KCode := (.keep [] (.seq (.reg fREncode_r7) .ret))
@[reducible] def fREncode_r8 : List (DOper × List Nat) := [
  o1 47 (.mv (.t 4)) [4],
  o1 48 (.mv (.t 0)) [],
  o1 49 (.mv (.t 5)) [],
  o1 50 (.idxS 2 (.t 48) (.t 49)) [48, 49],
  o1 51 (.fieldAddr 0 (.t 50)) [50],
  o1 52 (.load none (.t 51)) [51],
  o1 53 (.buildF 5 1 [(.int .u8 0)] [(0, 1, (.t 52))]) [52],
  o1 54 (.appO 5 1 1 (.t 47) (.t 53)) [47, 53],
  o1 4 (.mv (.t 54)) [54]]
@[reducible] def fREncode_r9 : List (DOper × List Nat) := [
  o1 55 (.mv (.t 4)) [4],
  o1 56 (.mv (.t 0)) [],
  o1 57 (.mv (.t 5)) [],
  o1 58 (.idxS 2 (.t 56) (.t 57)) [56, 57],
  o1 59 (.fieldAddr 1 (.t 58)) [58],
  o1 60 (.load none (.t 59)) [59],
  o1 61 (.len true (.t 60)) [60],
  o1 62 (.convI .u8 (.t 61)) [61],
  o1 63 (.buildF 5 1 [(.int .u8 0)] [(0, 1, (.t 62))]) [62],
  o1 64 (.appO 5 1 1 (.t 55) (.t 63)) [55, 63],
  o1 4 (.mv (.t 64)) [64]]
@[reducible] def fREncode_r10 : List (DOper × List Nat) := [
  o1 65 (.mv (.t 4)) [4],
  o1 66 (.mv (.t 0)) [],
  o1 67 (.mv (.t 5)) [],
  o1 68 (.idxS 2 (.t 66) (.t 67)) [66, 67],
  o1 69 (.fieldAddr 1 (.t 68)) [68],
  o1 70 (.load none (.t 69)) [69],
  o1 71 (.appO 5 1 1 (.t 65) (.t 70)) [65, 70],
  o1 4 (.mv (.t 71)) [71]]
@[reducible] def fREncode_r11 : List (DOper × List Nat) := [
  o1 10 (.mv (.t 5)) [5],
  o1 11 (.bin false .add (.t 10) (.k (.int .i64 1))) [10],
  o1 5 (.mv (.t 11)) [11]]
/-- live: [0, 4, 5] -/
@[reducible] def fREncode_l2 : KCode := (.seq (.seq (.reg fREncode_r3) (.cond (.t 9) (.kill [9] .skip) (.keep [4] (.exit 0)))) (.keep [0, 4, 5] (.seq (.block 1 (.seq (.seq (.draw fREncode_r4) (.cond (.t 35) fREncode_k0 (.kill [35] .skip))) (.keep [0, 4, 5] (.seq (.seq (.reg fREncode_r6) (.cond (.t 46) fREncode_k1 (.kill [46] .skip))) (.keep [0, 4, 5] (.seq (.reg fREncode_r8) (.seq (.reg fREncode_r9) (.reg fREncode_r10)))))))) (.keep [0, 4, 5] (.reg fREncode_r11)))))
@[reducible] def fREncode_r12 : List (DOper × List Nat) := [
  o1 72 (.mv (.t 4)) [4],
  o1 2 (.mv (.t 72)) [72],
  o1 3 (.mv (.k (.int .i64 0))) []]
/-- bosun/bosunref11.Encode -/
@[reducible] def fREncode : KCode := (.seq (.reg fREncode_r0) (.seq (.reg fREncode_r1) (.seq (.seq (.reg fREncode_r2) (.block 0 (.loop fREncode_l2))) (.keep [4] (.seq (.reg fREncode_r12) .ret)))))
@[reducible] def fREncode_rs : List IRes := [.tmp 2, .tmp 3]
theorem fREncode_low : lowFunc Try.prog 17 [] [] = some ⟨fREncode.bare, fREncode_rs, 73⟩ := by kernel_rfl

@[reducible] def fLives_r0 : List (DOper × List Nat) := [
  o1 0 (.mv (.k (.bool false))) [0]]
@[reducible] def fLives_r1 : List (DOper × List Nat) := [
  o1 4 (.buildF 5 1 [(.int .u8 0), (.int .u8 0), (.int .u8 0), (.int .u8 0)] [(0, 1, (.k (.int .u8 1))), (1, 1, (.k (.int .u8 2))), (2, 1, (.k (.int .u8 7))), (3, 1, (.k (.int .u8 8)))]) [],
  o1 5 (.call 12 [(.t 4)]) [4],
  o1 3 (.mv (.t 5)) [5],
  o1 6 (.extract 0 (.t 3)) [],
  o1 7 (.extract 1 (.t 3)) [3],
  o1 1 (.mv (.t 6)) [6],
  o1 2 (.mv (.t 7)) [7]]
@[reducible] def fLives_r2 : List (DOper × List Nat) := [
  o1 8 (.mv (.t 2)) [2],
  o1 9 (.bin false .eql (.t 8) (.k (.int .i64 0))) [8],
  o1 10 (.mv (.t 9)) [9],
  (⟨⟨(some 11), (some (10, true)), .mv (.t 1)⟩, 0, []⟩, []),
  (⟨⟨(some 12), (some (10, true)), .len true (.t 11)⟩, 0, []⟩, [11]),
  (⟨⟨(some 13), (some (10, true)), .bin false .eql (.t 12) (.k (.int .i64 1))⟩, 0, []⟩, [12]),
  o1 14 (.pick (.t 10) (.t 13) (.k (.bool false))) [10, 13],
  o1 15 (.mv (.t 14)) [14],
  (⟨⟨(some 16), (some (15, true)), .mv (.t 1)⟩, 0, []⟩, []),
  (⟨⟨(some 17), (some (15, true)), .idxS 2 (.t 16) (.k (.int .i64 0))⟩, 0, []⟩, [16]),
  (⟨⟨(some 18), (some (15, true)), .fieldAddr 0 (.t 17)⟩, 0, []⟩, [17]),
  (⟨⟨(some 19), (some (15, true)), .load none (.t 18)⟩, 0, []⟩, [18]),
  (⟨⟨(some 20), (some (15, true)), .bin false .eql (.t 19) (.k (.int .u8 1))⟩, 0, []⟩, [19]),
  o1 21 (.pick (.t 15) (.t 20) (.k (.bool false))) [15, 20],
  o1 22 (.mv (.t 21)) [21],
  (⟨⟨(some 23), (some (22, true)), .mv (.t 1)⟩, 0, []⟩, [1]),
  (⟨⟨(some 24), (some (22, true)), .idxS 2 (.t 23) (.k (.int .i64 0))⟩, 0, []⟩, [23]),
  (⟨⟨(some 25), (some (22, true)), .fieldAddr 1 (.t 24)⟩, 0, []⟩, [24]),
  (⟨⟨(some 26), (some (22, true)), .load none (.t 25)⟩, 0, []⟩, [25]),
  (⟨⟨(some 27), (some (22, true)), .toStr (.t 26)⟩, 0, []⟩, [26]),
  (⟨⟨(some 28), (some (22, true)), .bin false .eql (.t 27) (.k (.str [7, 8]))⟩, 0, []⟩, [27]),
  o1 29 (.pick (.t 22) (.t 28) (.k (.bool false))) [22, 28],
  o1 0 (.mv (.t 29)) [29]]
/-- bosun/bosunlaw11.lives -/
@[reducible] def fLives : KCode := (.seq (.reg fLives_r0) (.seq (.reg fLives_r1) (.seq (.reg fLives_r2) .ret)))
@[reducible] def fLives_rs : List IRes := [.tmp 0]
theorem fLives_low : lowFunc Try.prog 11 [] [] = some ⟨fLives.bare, fLives_rs, 30⟩ := by kernel_rfl

@[reducible] def fTlvParses_r0 : List (DOper × List Nat) := [
  o1 4 (.mv (.k (.bool false))) [4]]
@[reducible] def fTlvParses_r1 : List (DOper × List Nat) := [
  o1 18 (.call 11 []) [],
  o1 19 (.un .not (.t 18)) [18],
  o1 20 (.mv (.t 19)) [19],
  (⟨⟨(some 21), (some (20, false)), .mv (.t 0)⟩, 0, []⟩, []),
  (⟨⟨(some 22), (some (20, false)), .len true (.t 21)⟩, 0, []⟩, [21]),
  (⟨⟨(some 23), (some (20, false)), .bin false .gtr (.t 22) (.k (.int .i64 4000))⟩, 0, []⟩, [22]),
  o1 24 (.pick (.t 20) (.k (.bool true)) (.t 23)) [20, 23]]
@[reducible] def fTlvParses_r2 : List (DOper × List Nat) := [
  o1 25 (.call 11 []) [],
  o1 4 (.mv (.t 25)) [25]]
@[reducible] def fTlvParses_k0 : KCode := (.keep [] (.seq (.reg fTlvParses_r2) .ret))
@[reducible] def fTlvParses_r3 : List (DOper × List Nat) := [
  o1 26 (.buildF 5 1 [] []) [],
  o1 27 (.mv (.t 0)) [],
  o1 28 (.appF 5 1 1 (.t 26) (.t 27)) [26, 27],
  o1 5 (.mv (.t 28)) [28]]
@[reducible] def fTlvParses_r4 : List (DOper × List Nat) := [
  o1 30 (.mv (.t 5)) [],
  o1 31 (.call 12 [(.t 30)]) [30],
  o1 29 (.mv (.t 31)) [31],
  o1 32 (.extract 0 (.t 29)) [],
  o1 33 (.extract 1 (.t 29)) [29],
  o1 6 (.mv (.t 32)) [32],
  o1 7 (.mv (.t 33)) [33]]
@[reducible] def fTlvParses_r5 : List (DOper × List Nat) := [
  o1 35 (.mv (.t 0)) [],
  o1 36 (.call 13 [(.t 35)]) [35],
  o1 34 (.mv (.t 36)) [36],
  o1 37 (.extract 0 (.t 34)) [],
  o1 38 (.extract 1 (.t 34)) [34],
  o1 8 (.mv (.t 37)) [37],
  o1 9 (.mv (.t 38)) [38]]
@[reducible] def fTlvParses_r6 : List (DOper × List Nat) := [
  o1 39 (.mv (.t 7)) [],
  o1 40 (.mv (.t 9)) [9],
  o1 41 (.bin false .neq (.t 39) (.t 40)) [39, 40],
  o1 42 (.mv (.t 41)) [41],
  (⟨⟨(some 43), (some (42, false)), .mv (.t 6)⟩, 0, []⟩, []),
  (⟨⟨(some 44), (some (42, false)), .mv (.t 8)⟩, 0, []⟩, []),
  (⟨⟨(some 45), (some (42, false)), .call 14 [(.t 43), (.t 44)]⟩, 0, []⟩, [43, 44]),
  (⟨⟨(some 46), (some (42, false)), .un .not (.t 45)⟩, 0, []⟩, [45]),
  o1 47 (.pick (.t 42) (.k (.bool true)) (.t 46)) [42, 46],
  o1 48 (.mv (.t 47)) [47],
  (⟨⟨(some 49), (some (48, false)), .mv (.t 5)⟩, 0, []⟩, [5]),
  (⟨⟨(some 50), (some (48, false)), .toStr (.t 49)⟩, 0, []⟩, [49]),
  (⟨⟨(some 51), (some (48, false)), .mv (.t 0)⟩, 0, []⟩, []),
  (⟨⟨(some 52), (some (48, false)), .toStr (.t 51)⟩, 0, []⟩, [51]),
  (⟨⟨(some 53), (some (48, false)), .bin false .neq (.t 50) (.t 52)⟩, 0, []⟩, [50, 52]),
  o1 54 (.pick (.t 48) (.k (.bool true)) (.t 53)) [48, 53]]
@[reducible] def fTlvParses_r7 : List (DOper × List Nat) := [
  o1 4 (.mv (.k (.bool false))) []]
@[reducible] def fTlvParses_k1 : KCode := (.keep [] (.seq (.reg fTlvParses_r7) .ret))
@[reducible] def fTlvParses_r8 : List (DOper × List Nat) := [
  o1 55 (.mv (.t 7)) [7],
  o1 56 (.bin false .neq (.t 55) (.k (.int .i64 0))) [55]]
@[reducible] def fTlvParses_r9 : List (DOper × List Nat) := [
  o1 4 (.mv (.k (.bool true))) []]
@[reducible] def fTlvParses_k2 : KCode := (.keep [] (.seq (.reg fTlvParses_r9) .ret))
@[reducible] def fTlvParses_r10 : List (DOper × List Nat) := [
  o1 58 (.mv (.t 6)) [],
  o1 59 (.call 15 [(.t 58)]) [58],
  o1 57 (.mv (.t 59)) [59],
  o1 60 (.extract 0 (.t 57)) [],
  o1 61 (.extract 1 (.t 57)) [57],
  o1 10 (.mv (.t 60)) [60],
  o1 11 (.mv (.t 61)) [61]]
@[reducible] def fTlvParses_r11 : List (DOper × List Nat) := [
  o1 63 (.mv (.t 6)) [6],
  o1 64 (.mv (.t 1)) [],
  o1 65 (.call 16 [(.t 63), (.t 64)]) [63, 64],
  o1 62 (.mv (.t 65)) [65],
  o1 66 (.extract 0 (.t 62)) [],
  o1 67 (.extract 1 (.t 62)) [62],
  o1 12 (.mv (.t 66)) [66],
  o1 13 (.mv (.t 67)) [67]]
@[reducible] def fTlvParses_r12 : List (DOper × List Nat) := [
  o1 14 (.mv (.k (.list 1 ⟨true, true, false⟩ []))) [],
  o1 15 (.mv (.k (.bool false))) []]
@[reducible] def fTlvParses_r13 : List (DOper × List Nat) := [
  o1 68 (.mv (.t 8)) [8],
  o1 69 (.len true (.t 68)) [],
  o1 70 (.mv (.k (.int .i64 0))) []]
@[reducible] def fTlvParses_r14 : List (DOper × List Nat) := [
  o1 71 (.bin false .lss (.t 70) (.t 69)) []]
@[reducible] def fTlvParses_k3 : KCode := (.kill [1, 68, 69, 70, 71] (.exit 0))
@[reducible] def fTlvParses_r15 : List (DOper × List Nat) := [
  o1 72 (.idxS 2 (.t 68) (.t 70)) [],
  o1 73 (.load (some 2) (.t 72)) [72],
  o1 17 (.alloc 37 [(.int .u8 0), (.list 1 ⟨true, true, false⟩ [])]) [],
  (⟨⟨none, none, .store 2 (.t 17) (.t 73)⟩, 0, []⟩, [73])]
@[reducible] def fTlvParses_r16 : List (DOper × List Nat) := [
  o1 74 (.fieldAddr 0 (.t 17)) [],
  o1 75 (.load none (.t 74)) [74],
  o1 76 (.mv (.t 1)) [],
  o1 77 (.bin false .eql (.t 75) (.t 76)) [75, 76]]
@[reducible] def fTlvParses_r17 : List (DOper × List Nat) := [
  o1 78 (.fieldAddr 1 (.t 17)) [17],
  o1 79 (.load none (.t 78)) [78],
  o1 14 (.mv (.t 79)) [79],
  o1 15 (.mv (.k (.bool true))) []]
@[reducible] def fTlvParses_k4 : KCode := (.kill [14, 15, 77] (.reg fTlvParses_r17))
@[reducible] def fTlvParses_r18 : List (DOper × List Nat) := [
  o1 80 (.bin false .add (.t 70) (.k (.int .i64 1))) [70],
  o1 70 (.mv (.t 80)) [80]]
/-- live: [0, 1, 10, 11, 12, 13, 14, 15, 68, 69, 70] -/
@[reducible] def fTlvParses_l5 : KCode := (.seq (.reg fTlvParses_r14) (.seq (.cond (.t 71) (.kill [71] .skip) fTlvParses_k3) (.kill [71] (.seq (.block 1 (.seq (.reg fTlvParses_r15) (.seq (.reg fTlvParses_r16) (.cond (.t 77) fTlvParses_k4 (.kill [17, 77] .skip))))) (.kill [17, 72, 73, 74, 75, 76, 77, 78, 79] (.reg fTlvParses_r18))))))
@[reducible] def fTlvParses_r19 : List (DOper × List Nat) := [
  o1 81 (.mv (.t 11)) [11],
  o1 82 (.bin false .eql (.t 81) (.k (.int .i64 0))) [81],
  o1 83 (.mv (.t 82)) [82],
  (⟨⟨(some 84), (some (83, true)), .mv (.t 10)⟩, 0, []⟩, [10]),
  (⟨⟨(some 85), (some (83, true)), .toStr (.t 84)⟩, 0, []⟩, [84]),
  (⟨⟨(some 86), (some (83, true)), .mv (.t 0)⟩, 0, []⟩, [0]),
  (⟨⟨(some 87), (some (83, true)), .toStr (.t 86)⟩, 0, []⟩, [86]),
  (⟨⟨(some 88), (some (83, true)), .bin false .eql (.t 85) (.t 87)⟩, 0, []⟩, [85, 87]),
  o1 89 (.pick (.t 83) (.t 88) (.k (.bool false))) [83, 88],
  o1 90 (.mv (.t 89)) [89],
  (⟨⟨(some 91), (some (90, true)), .mv (.t 13)⟩, 0, []⟩, [13]),
  (⟨⟨(some 92), (some (90, true)), .mv (.t 15)⟩, 0, []⟩, [15]),
  (⟨⟨(some 93), (some (90, true)), .bin true .eql (.t 91) (.t 92)⟩, 0, []⟩, [91, 92]),
  o1 94 (.pick (.t 90) (.t 93) (.k (.bool false))) [90, 93],
  o1 95 (.mv (.t 94)) [94],
  (⟨⟨(some 96), (some (95, true)), .mv (.t 12)⟩, 0, []⟩, [12]),
  (⟨⟨(some 97), (some (95, true)), .toStr (.t 96)⟩, 0, []⟩, [96]),
  (⟨⟨(some 98), (some (95, true)), .mv (.t 14)⟩, 0, []⟩, [14]),
  (⟨⟨(some 99), (some (95, true)), .toStr (.t 98)⟩, 0, []⟩, [98]),
  (⟨⟨(some 100), (some (95, true)), .bin false .eql (.t 97) (.t 99)⟩, 0, []⟩, [97, 99]),
  o1 101 (.pick (.t 95) (.t 100) (.k (.bool false))) [95, 100],
  o1 4 (.mv (.t 101)) [101]]
/-- bosun/bosunlaw11.TlvParses -/
@[reducible] def fTlvParses : KCode := (.seq (.reg fTlvParses_r0) (.seq (.seq (.reg fTlvParses_r1) (.cond (.t 24) fTlvParses_k0 (.kill [24] .skip))) (.keep [0, 1] (.seq (.reg fTlvParses_r3) (.seq (.reg fTlvParses_r4) (.seq (.reg fTlvParses_r5) (.seq (.seq (.reg fTlvParses_r6) (.cond (.t 54) fTlvParses_k1 (.kill [54] .skip))) (.keep [0, 1, 6, 7, 8] (.seq (.seq (.reg fTlvParses_r8) (.cond (.t 56) fTlvParses_k2 (.kill [56] .skip))) (.kill [4, 7, 55, 56] (.seq (.reg fTlvParses_r10) (.seq (.reg fTlvParses_r11) (.seq (.reg fTlvParses_r12) (.seq (.seq (.reg fTlvParses_r13) (.block 0 (.loop fTlvParses_l5))) (.keep [0, 10, 11, 12, 13, 14, 15] (.seq (.reg fTlvParses_r19) .ret))))))))))))))))
@[reducible] def fTlvParses_rs : List IRes := [.tmp 4]
theorem fTlvParses_low : lowFunc Try.prog 3 [(3, 2)] [] = some ⟨fTlvParses.bare, fTlvParses_rs, 102⟩ := by kernel_rfl

@[reducible] def fTlvEncodes_r0 : List (DOper × List Nat) := [
  o1 4 (.mv (.k (.bool false))) [4]]
@[reducible] def fTlvEncodes_r1 : List (DOper × List Nat) := [
  o1 18 (.call 11 []) [],
  o1 19 (.un .not (.t 18)) [18],
  o1 20 (.mv (.t 19)) [19],
  (⟨⟨(some 21), (some (20, false)), .mv (.t 0)⟩, 0, []⟩, []),
  (⟨⟨(some 22), (some (20, false)), .len true (.t 21)⟩, 0, []⟩, [21]),
  (⟨⟨(some 23), (some (20, false)), .bin false .gtr (.t 22) (.k (.int .i64 30))⟩, 0, []⟩, [22]),
  o1 24 (.pick (.t 20) (.k (.bool true)) (.t 23)) [20, 23]]
@[reducible] def fTlvEncodes_r2 : List (DOper × List Nat) := [
  o1 25 (.call 11 []) [],
  o1 4 (.mv (.t 25)) [25]]
@[reducible] def fTlvEncodes_k0 : KCode := (.keep [] (.seq (.reg fTlvEncodes_r2) .ret))
@[reducible] def fTlvEncodes_r3 : List (DOper × List Nat) := [
  o1 5 (.mv (.k (.list 1 ⟨true, true, false⟩ []))) []]
@[reducible] def fTlvEncodes_r4 : List (DOper × List Nat) := [
  o1 26 (.mv (.t 0)) [],
  o1 27 (.len true (.t 26)) [],
  o1 28 (.mv (.k (.int .i64 0))) []]
@[reducible] def fTlvEncodes_r5 : List (DOper × List Nat) := [
  o1 29 (.bin false .lss (.t 28) (.t 27)) []]
@[reducible] def fTlvEncodes_k1 : KCode := (.keep [0, 1, 5] (.exit 0))
@[reducible] def fTlvEncodes_r6 : List (DOper × List Nat) := [
  o1 30 (.idxS 2 (.t 26) (.t 28)) [],
  o1 31 (.load (some 2) (.t 30)) [30],
  o1 7 (.alloc 39 [(.int .u8 0), (.list 1 ⟨true, true, false⟩ [])]) [],
  (⟨⟨none, none, .store 2 (.t 7) (.t 31)⟩, 0, []⟩, [31])]
@[reducible] def fTlvEncodes_r7 : List (DOper × List Nat) := [
  o1 32 (.fieldAddr 1 (.t 7)) [],
  o1 33 (.load none (.t 32)) [32],
  o1 34 (.len true (.t 33)) [33],
  o1 35 (.bin false .gtr (.t 34) (.k (.int .i64 400))) [34]]
@[reducible] def fTlvEncodes_r8 : List (DOper × List Nat) := [
  o1 4 (.mv (.k (.bool true))) []]
@[reducible] def fTlvEncodes_k2 : KCode := (.keep [] (.seq (.reg fTlvEncodes_r8) .ret))
@[reducible] def fTlvEncodes_r9 : List (DOper × List Nat) := [
  o1 36 (.mv (.t 5)) [5],
  o1 37 (.fieldAddr 0 (.t 7)) [],
  o1 38 (.load none (.t 37)) [37],
  o1 39 (.fieldAddr 1 (.t 7)) [7],
  o1 40 (.load none (.t 39)) [39],
  o1 41 (.build [(.int .u8 0), (.list 1 ⟨true, true, false⟩ [])] [(0, 1, (.t 38)), (1, 1, (.t 40))]) [38, 40],
  o1 42 (.buildF 37 2 [(.int .u8 0), (.list 1 ⟨true, true, false⟩ [])] [(0, 2, (.t 41))]) [41],
  o1 43 (.appO 37 2 32 (.t 36) (.t 42)) [36, 42],
  o1 5 (.mv (.t 43)) [43]]
@[reducible] def fTlvEncodes_r10 : List (DOper × List Nat) := [
  o1 44 (.bin false .add (.t 28) (.k (.int .i64 1))) [28],
  o1 28 (.mv (.t 44)) [44]]
/-- live: [0, 1, 5, 26, 27, 28] -/
@[reducible] def fTlvEncodes_l3 : KCode := (.seq (.reg fTlvEncodes_r5) (.seq (.cond (.t 29) (.kill [29] .skip) fTlvEncodes_k1) (.kill [29] (.seq (.block 1 (.seq (.reg fTlvEncodes_r6) (.seq (.seq (.reg fTlvEncodes_r7) (.cond (.t 35) fTlvEncodes_k2 (.kill [35] .skip))) (.kill [4, 32, 33, 34, 35] (.reg fTlvEncodes_r9))))) (.keep [0, 1, 5, 26, 27, 28] (.reg fTlvEncodes_r10))))))
@[reducible] def fTlvEncodes_r11 : List (DOper × List Nat) := [
  o1 46 (.mv (.t 0)) [],
  o1 47 (.call 15 [(.t 46)]) [46],
  o1 45 (.mv (.t 47)) [47],
  o1 48 (.extract 0 (.t 45)) [],
  o1 49 (.extract 1 (.t 45)) [45],
  o1 8 (.mv (.t 48)) [48],
  o1 9 (.mv (.t 49)) [49]]
@[reducible] def fTlvEncodes_r12 : List (DOper × List Nat) := [
  o1 51 (.mv (.t 5)) [],
  o1 52 (.call 17 [(.t 51)]) [51],
  o1 50 (.mv (.t 52)) [52],
  o1 53 (.extract 0 (.t 50)) [],
  o1 54 (.extract 1 (.t 50)) [50],
  o1 10 (.mv (.t 53)) [53],
  o1 11 (.mv (.t 54)) [54]]
@[reducible] def fTlvEncodes_r13 : List (DOper × List Nat) := [
  o1 55 (.mv (.t 9)) [],
  o1 56 (.mv (.t 11)) [11],
  o1 57 (.bin false .neq (.t 55) (.t 56)) [55, 56],
  o1 58 (.mv (.t 57)) [57],
  (⟨⟨(some 59), (some (58, false)), .mv (.t 8)⟩, 0, []⟩, []),
  (⟨⟨(some 60), (some (58, false)), .toStr (.t 59)⟩, 0, []⟩, [59]),
  (⟨⟨(some 61), (some (58, false)), .mv (.t 10)⟩, 0, []⟩, [10]),
  (⟨⟨(some 62), (some (58, false)), .toStr (.t 61)⟩, 0, []⟩, [61]),
  (⟨⟨(some 63), (some (58, false)), .bin false .neq (.t 60) (.t 62)⟩, 0, []⟩, [60, 62]),
  o1 64 (.pick (.t 58) (.k (.bool true)) (.t 63)) [58, 63]]
@[reducible] def fTlvEncodes_r14 : List (DOper × List Nat) := [
  o1 4 (.mv (.k (.bool false))) []]
@[reducible] def fTlvEncodes_k4 : KCode := (.keep [] (.seq (.reg fTlvEncodes_r14) .ret))
@[reducible] def fTlvEncodes_r15 : List (DOper × List Nat) := [
  o1 66 (.mv (.t 0)) [],
  o1 67 (.mv (.t 1)) [],
  o1 68 (.call 16 [(.t 66), (.t 67)]) [66, 67],
  o1 65 (.mv (.t 68)) [68],
  o1 69 (.extract 0 (.t 65)) [],
  o1 70 (.extract 1 (.t 65)) [65],
  o1 12 (.mv (.t 69)) [69],
  o1 13 (.mv (.t 70)) [70]]
@[reducible] def fTlvEncodes_r16 : List (DOper × List Nat) := [
  o1 71 (.mv (.t 0)) [0],
  o1 72 (.len true (.t 71)) [],
  o1 73 (.mv (.k (.int .i64 0))) []]
@[reducible] def fTlvEncodes_r17 : List (DOper × List Nat) := [
  o1 74 (.bin false .lss (.t 73) (.t 72)) []]
@[reducible] def fTlvEncodes_k5 : KCode := (.keep [5, 8, 9, 13] (.exit 2))
@[reducible] def fTlvEncodes_r18 : List (DOper × List Nat) := [
  o1 75 (.idxS 2 (.t 71) (.t 73)) [],
  o1 76 (.load (some 2) (.t 75)) [75],
  o1 15 (.alloc 39 [(.int .u8 0), (.list 1 ⟨true, true, false⟩ [])]) [],
  (⟨⟨none, none, .store 2 (.t 15) (.t 76)⟩, 0, []⟩, [76])]
@[reducible] def fTlvEncodes_r19 : List (DOper × List Nat) := [
  o1 77 (.fieldAddr 0 (.t 15)) [],
  o1 78 (.load none (.t 77)) [77],
  o1 79 (.mv (.t 1)) [],
  o1 80 (.bin false .eql (.t 78) (.t 79)) [78, 79]]
@[reducible] def fTlvEncodes_r20 : List (DOper × List Nat) := [
  o1 81 (.mv (.t 13)) [13],
  o1 82 (.un .not (.t 81)) [81],
  o1 83 (.mv (.t 82)) [82],
  (⟨⟨(some 84), (some (83, false)), .mv (.t 12)⟩, 0, []⟩, [12]),
  (⟨⟨(some 85), (some (83, false)), .toStr (.t 84)⟩, 0, []⟩, [84]),
  (⟨⟨(some 86), (some (83, false)), .fieldAddr 1 (.t 15)⟩, 0, []⟩, [15]),
  (⟨⟨(some 87), (some (83, false)), .load none (.t 86)⟩, 0, []⟩, [86]),
  (⟨⟨(some 88), (some (83, false)), .toStr (.t 87)⟩, 0, []⟩, [87]),
  (⟨⟨(some 89), (some (83, false)), .bin false .neq (.t 85) (.t 88)⟩, 0, []⟩, [85, 88]),
  o1 90 (.pick (.t 83) (.k (.bool true)) (.t 89)) [83, 89]]
@[reducible] def fTlvEncodes_r21 : List (DOper × List Nat) := [
  o1 4 (.mv (.k (.bool false))) []]
@[reducible] def fTlvEncodes_k6 : KCode := (.keep [] (.seq (.reg fTlvEncodes_r21) .ret))
@[reducible] def fTlvEncodes_r22 : List (DOper × List Nat) := [
  o1 13 (.mv (.k (.bool false))) []]
@[reducible] def fTlvEncodes_k7 : KCode := (.kill [1, 71, 72, 73, 80] (.seq (.seq (.reg fTlvEncodes_r20) (.cond (.t 90) fTlvEncodes_k6 (.kill [90] .skip))) (.keep [5, 8, 9] (.seq (.reg fTlvEncodes_r22) (.exit 2)))))
@[reducible] def fTlvEncodes_r23 : List (DOper × List Nat) := [
  o1 91 (.bin false .add (.t 73) (.k (.int .i64 1))) [73],
  o1 73 (.mv (.t 91)) [91]]
/-- live: [1, 5, 8, 9, 12, 13, 71, 72, 73] -/
@[reducible] def fTlvEncodes_l8 : KCode := (.seq (.reg fTlvEncodes_r17) (.seq (.cond (.t 74) (.kill [74] .skip) fTlvEncodes_k5) (.kill [74] (.seq (.block 3 (.seq (.reg fTlvEncodes_r18) (.seq (.reg fTlvEncodes_r19) (.cond (.t 80) fTlvEncodes_k7 (.kill [15, 80] .skip))))) (.keep [1, 5, 8, 9, 12, 13, 71, 72, 73] (.reg fTlvEncodes_r23))))))
@[reducible] def fTlvEncodes_r24 : List (DOper × List Nat) := [
  o1 92 (.mv (.t 13)) [13]]
@[reducible] def fTlvEncodes_r25 : List (DOper × List Nat) := [
  o1 4 (.mv (.k (.bool false))) []]
@[reducible] def fTlvEncodes_k9 : KCode := (.keep [] (.seq (.reg fTlvEncodes_r25) .ret))
@[reducible] def fTlvEncodes_r26 : List (DOper × List Nat) := [
  o1 93 (.mv (.t 9)) [9],
  o1 94 (.bin false .neq (.t 93) (.k (.int .i64 0))) [93]]
@[reducible] def fTlvEncodes_r27 : List (DOper × List Nat) := [
  o1 95 (.mv (.t 8)) [8],
  o1 96 (.len true (.t 95)) [95],
  o1 97 (.bin false .eql (.t 96) (.k (.int .i64 0))) [96],
  o1 4 (.mv (.t 97)) [97]]
@[reducible] def fTlvEncodes_k10 : KCode := (.keep [8] (.seq (.reg fTlvEncodes_r27) .ret))
@[reducible] def fTlvEncodes_r28 : List (DOper × List Nat) := [
  o1 99 (.mv (.t 8)) [8],
  o1 100 (.call 12 [(.t 99)]) [99],
  o1 98 (.mv (.t 100)) [100],
  o1 101 (.extract 0 (.t 98)) [],
  o1 102 (.extract 1 (.t 98)) [98],
  o1 16 (.mv (.t 101)) [101],
  o1 17 (.mv (.t 102)) [102]]
@[reducible] def fTlvEncodes_r29 : List (DOper × List Nat) := [
  o1 103 (.mv (.t 17)) [17],
  o1 104 (.bin false .eql (.t 103) (.k (.int .i64 0))) [103],
  o1 105 (.mv (.t 104)) [104],
  (⟨⟨(some 106), (some (105, true)), .mv (.t 16)⟩, 0, []⟩, [16]),
  (⟨⟨(some 107), (some (105, true)), .mv (.t 5)⟩, 0, []⟩, [5]),
  (⟨⟨(some 108), (some (105, true)), .call 14 [(.t 106), (.t 107)]⟩, 0, []⟩, [106, 107]),
  o1 109 (.pick (.t 105) (.t 108) (.k (.bool false))) [105, 108],
  o1 4 (.mv (.t 109)) [109]]
/-- bosun/bosunlaw11.TlvEncodes -/
@[reducible] def fTlvEncodes : KCode := (.seq (.reg fTlvEncodes_r0) (.seq (.seq (.reg fTlvEncodes_r1) (.cond (.t 24) fTlvEncodes_k0 (.kill [24] .skip))) (.keep [0, 1] (.seq (.reg fTlvEncodes_r3) (.seq (.seq (.reg fTlvEncodes_r4) (.block 0 (.loop fTlvEncodes_l3))) (.keep [0, 1, 5] (.seq (.reg fTlvEncodes_r11) (.seq (.reg fTlvEncodes_r12) (.seq (.seq (.reg fTlvEncodes_r13) (.cond (.t 64) fTlvEncodes_k4 (.kill [64] .skip))) (.keep [0, 1, 5, 8, 9] (.seq (.reg fTlvEncodes_r15) (.seq (.seq (.reg fTlvEncodes_r16) (.block 2 (.loop fTlvEncodes_l8))) (.cut (.keep [5, 8, 9, 13] (.seq (.seq (.reg fTlvEncodes_r24) (.cond (.t 92) fTlvEncodes_k9 (.kill [92] .skip))) (.kill [4, 13, 92] (.seq (.seq (.reg fTlvEncodes_r26) (.cond (.t 94) fTlvEncodes_k10 (.kill [94] .skip))) (.keep [5, 8] (.seq (.reg fTlvEncodes_r28) (.seq (.reg fTlvEncodes_r29) .ret))))))))))))))))))))
@[reducible] def fTlvEncodes_rs : List IRes := [.tmp 4]
theorem fTlvEncodes_low : lowFunc Try.prog 4 [] [] = some ⟨fTlvEncodes.bare, fTlvEncodes_rs, 110⟩ := by kernel_rfl

end Go.Proofs.Ytlffcidcopibmaa
