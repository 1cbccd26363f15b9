/-
  Codes of the functions of chapter 10.
-/
import Derived.Test.YtlffcidcopibmaaFwB
import Derived.Test.YtlffcidcopibmaaRows
set_option linter.unusedSimpArgs false
set_option linter.unusedVariables false
set_option linter.unusedSectionVars false
namespace Go.Proofs.Ytlffcidcopibmaa
open Go.Fw
@[reducible] def fClone_r0 : List (DOper × List Nat) := [
  o1 2 (.mv (.k (.list 1 ⟨true, true, false⟩ []))) [2]]
@[reducible] def fClone_r1 : List (DOper × List Nat) := [
  o1 3 (.mv (.t 0)) []]
@[reducible] def fClone_r2 : List (DOper × List Nat) := [
  o1 2 (.mv (.k (.list 1 ⟨true, true, false⟩ []))) []]
@[reducible] def fClone_k0 : KCode := (.keep [] (.seq (.reg fClone_r2) .ret))
@[reducible] def fClone_r3 : List (DOper × List Nat) := [
  o1 5 (.buildF 5 1 [] []) [],
  o1 6 (.mv (.t 0)) [0],
  o1 7 (.appF 5 1 1 (.t 5) (.t 6)) [5, 6],
  o1 2 (.mv (.t 7)) [7]]
/-- slices.Clone[[]byte,byte] -/
@[reducible] def fClone : KCode := (.seq (.reg fClone_r0) (.seq (.seq (.regN fClone_r1 4 false (.t 3) [3]) (.cond (.t 4) fClone_k0 (.kill [4] .skip))) (.keep [0] (.seq (.reg fClone_r3) .ret))))
@[reducible] def fClone_rs : List IRes := [.tmp 2]
theorem fClone_low : lowFunc Try.prog 35 [(3, 2)] [] = some ⟨fClone.bare, fClone_rs, 8⟩ := by kernel_rfl

@[reducible] def fNew_r0 : List (DOper × List Nat) := [
  o1 2 (.mv (.k .nil)) [2],
  o1 3 (.mv (.k (.int .i64 0))) [3]]
@[reducible] def fNew_r1 : List (DOper × List Nat) := [
  o1 4 (.mv (.t 0)) [],
  o1 5 (.bin false .lss (.t 4) (.k (.int .i64 1))) [4],
  o1 6 (.mv (.t 5)) [5],
  (⟨⟨(some 7), (some (6, false)), .mv (.t 0)⟩, 0, []⟩, []),
  (⟨⟨(some 8), (some (6, false)), .bin false .gtr (.t 7) (.k (.int .i64 65536))⟩, 0, []⟩, [7]),
  o1 9 (.pick (.t 6) (.k (.bool true)) (.t 8)) [6, 8]]
@[reducible] def fNew_r2 : List (DOper × List Nat) := [
  o1 2 (.mv (.k .nil)) [],
  o1 3 (.mv (.k (.int .i64 1))) []]
@[reducible] def fNew_k0 : KCode := (.keep [] (.seq (.reg fNew_r2) .ret))
@[reducible] def fNew_r3 : List (DOper × List Nat) := [
  o1 10 (.mv (.t 0)) [0],
  o1 11 (.build [(.list 1 ⟨true, true, false⟩ []), (.int .i64 0)] [(1, 1, (.t 10))]) [10],
  o1 12 (.build [(.list 1 ⟨true, true, false⟩ []), (.int .i64 0), (.bool false), (.bool false)] [(0, 2, (.t 11))]) [11],
  o1 13 (.box 84 (.t 12)) [12],
  o1 2 (.mv (.t 13)) [13],
  o1 3 (.mv (.k (.int .i64 0))) []]
/-- bosun/deslip.New -/
@[reducible] def fNew : KCode := (.seq (.reg fNew_r0) (.seq (.seq (.reg fNew_r1) (.cond (.t 9) fNew_k0 (.kill [9] .skip))) (.keep [0] (.seq (.reg fNew_r3) .ret))))
@[reducible] def fNew_rs : List IRes := [.tmp 2, .tmp 3]
theorem fNew_low : lowFunc Try.prog 24 [] [] = some ⟨fNew.bare, fNew_rs, 14⟩ := by kernel_rfl

@[reducible] def fTake_r0 : List (DOper × List Nat) := [
  o1 4 (.mv (.k (.bool false))) [4]]
@[reducible] def fTake_r1 : List (DOper × List Nat) := [
  o1 5 (.mv (.t 0)) [],
  o2 6 1 (.nilCheck (.t 5)) [5],
  o2 7 2 (.fieldAddr 0 (.t 6)) [6],
  o2 8 3 (.load none (.t 7)) [7],
  o2 9 4 (.len true (.t 8)) [8],
  o2 10 5 (.mv (.t 0)) [],
  o2 11 6 (.nilCheck (.t 10)) [10],
  o2 12 7 (.fieldAddr 1 (.t 11)) [11],
  o2 13 8 (.load none (.t 12)) [12],
  o2 14 9 (.bin false .geq (.t 9) (.t 13)) [9, 13]]
@[reducible] def fTake_r2 : List (DOper × List Nat) := [
  o1 4 (.mv (.k (.bool false))) []]
@[reducible] def fTake_k0 : KCode := (.keep [] (.seq (.reg fTake_r2) .ret))
@[reducible] def fTake_r3 : List (DOper × List Nat) := [
  o1 15 (.mv (.t 0)) [],
  o1 16 (.mv (.t 0)) [0],
  o1 17 (.nilCheck (.t 16)) [16],
  o1 18 (.fieldAddr 0 (.t 17)) [17],
  o1 19 (.load none (.t 18)) [18],
  o1 20 (.mv (.t 1)) [1],
  o1 21 (.buildF 5 1 [(.int .u8 0)] [(0, 1, (.t 20))]) [20],
  o1 22 (.appO 5 1 1 (.t 19) (.t 21)) [19, 21],
  o1 23 (.nilCheck (.t 15)) [15],
  o1 24 (.fieldAddr 0 (.t 23)) [23],
  (⟨⟨none, none, .store 1 (.t 24) (.t 22)⟩, 0, []⟩, [22, 24])]
@[reducible] def fTake_r4 : List (DOper × List Nat) := [
  o1 4 (.mv (.k (.bool true))) []]
/-- (*bosun/deslip.gather).take -/
@[reducible] def fTake : KCode := (.seq (.reg fTake_r0) (.seq (.seq (.draw fTake_r1) (.cond (.t 14) fTake_k0 (.kill [14] .skip))) (.keep [0, 1] (.seq (.reg fTake_r3) (.seq (.reg fTake_r4) .ret)))))
@[reducible] def fTake_rs : List IRes := [.tmp 4]
theorem fTake_low : lowFunc Try.prog 40 [] [] = some ⟨fTake.bare, fTake_rs, 25⟩ := by kernel_rfl

@[reducible] def fClear_r0 : List (DOper × List Nat) := [
  o1 2 (.mv (.k (.list 1 ⟨true, true, false⟩ []))) [2]]
@[reducible] def fClear_r1 : List (DOper × List Nat) := [
  o1 4 (.mv (.t 0)) [],
  o1 5 (.nilCheck (.t 4)) [4],
  o1 6 (.fieldAddr 0 (.t 5)) [5],
  o1 7 (.load none (.t 6)) [6],
  o1 8 (.call 35 [(.t 7)]) [7],
  o1 3 (.mv (.t 8)) [8]]
@[reducible] def fClear_r2 : List (DOper × List Nat) := [
  o1 9 (.mv (.t 0)) [0],
  o1 10 (.nilCheck (.t 9)) [9],
  o1 11 (.fieldAddr 0 (.t 10)) [10],
  (⟨⟨none, none, .store 1 (.t 11) (.k (.list 1 ⟨true, true, false⟩ []))⟩, 0, []⟩, [11])]
@[reducible] def fClear_r3 : List (DOper × List Nat) := [
  o1 12 (.mv (.t 3)) [3],
  o1 2 (.mv (.t 12)) [12]]
/-- (*bosun/deslip.gather).clear -/
@[reducible] def fClear : KCode := (.seq (.reg fClear_r0) (.seq (.reg fClear_r1) (.seq (.reg fClear_r2) (.seq (.reg fClear_r3) .ret))))
@[reducible] def fClear_rs : List IRes := [.tmp 2]
theorem fClear_low : lowFunc Try.prog 39 [] [] = some ⟨fClear.bare, fClear_rs, 13⟩ := by kernel_rfl

@[reducible] def fFail_r0 : List (DOper × List Nat) := [
  o1 4 (.mv (.k (.list 1 ⟨true, true, false⟩ []))) [4],
  o1 5 (.mv (.k (.int .i64 0))) [5]]
@[reducible] def fFail_r1 : List (DOper × List Nat) := [
  o1 6 (.mv (.t 0)) [],
  o1 7 (.nilCheck (.t 6)) [6],
  o1 8 (.fieldAddr 0 (.t 7)) [7],
  o1 9 (.call 39 [(.t 8)]) [8, 9]]
@[reducible] def fFail_r2 : List (DOper × List Nat) := [
  o1 10 (.mv (.t 0)) [],
  o1 11 (.mv (.t 0)) [0],
  o1 12 (.nilCheck (.t 10)) [10],
  o1 13 (.fieldAddr 2 (.t 12)) [12],
  (⟨⟨none, none, .store 1 (.t 13) (.k (.bool false))⟩, 0, []⟩, [13]),
  o1 14 (.nilCheck (.t 11)) [11],
  o1 15 (.fieldAddr 3 (.t 14)) [14],
  (⟨⟨none, none, .store 1 (.t 15) (.k (.bool true))⟩, 0, []⟩, [15])]
@[reducible] def fFail_r3 : List (DOper × List Nat) := [
  o1 16 (.mv (.t 1)) [1],
  o1 4 (.mv (.k (.list 1 ⟨true, true, false⟩ []))) [],
  o1 5 (.mv (.t 16)) [16]]
/-- (*bosun/deslip.Decoder).fail -/
@[reducible] def fFail : KCode := (.seq (.reg fFail_r0) (.seq (.reg fFail_r1) (.seq (.reg fFail_r2) (.seq (.reg fFail_r3) .ret))))
@[reducible] def fFail_rs : List IRes := [.tmp 4, .tmp 5]
theorem fFail_low : lowFunc Try.prog 38 [] [] = some ⟨fFail.bare, fFail_rs, 17⟩ := by kernel_rfl

@[reducible] def fFeed_r0 : List (DOper × List Nat) := [
  o1 4 (.mv (.k (.list 1 ⟨true, true, false⟩ []))) [4],
  o1 5 (.mv (.k (.int .i64 0))) [5]]
@[reducible] def fFeed_r1 : List (DOper × List Nat) := [
  o1 9 (.mv (.t 0)) [],
  o1 10 (.isNil false 0 (.t 9)) [9],
  o1 8 (.mv (.t 10)) [10]]
@[reducible] def fFeed_r2 : List (DOper × List Nat) := [
  o1 4 (.mv (.k (.list 1 ⟨true, true, false⟩ []))) [],
  o1 5 (.mv (.k (.int .i64 1))) []]
@[reducible] def fFeed_r3 : List (DOper × List Nat) := [
  o1 12 (.mv (.t 0)) [],
  o1 13 (.nilCheck (.t 12)) [12],
  o1 14 (.fieldAddr 3 (.t 13)) [13],
  o1 15 (.load none (.t 14)) [14],
  o1 11 (.mv (.t 15)) [15]]
@[reducible] def fFeed_r4 : List (DOper × List Nat) := [
  o1 16 (.mv (.t 0)) [0],
  o1 17 (.mv (.t 1)) [1],
  o1 18 (.bin false .neq (.t 17) (.k (.int .u8 192))) [17],
  o1 19 (.nilCheck (.t 16)) [16],
  o1 20 (.fieldAddr 3 (.t 19)) [19],
  (⟨⟨none, none, .store 1 (.t 20) (.t 18)⟩, 0, []⟩, [18, 20])]
@[reducible] def fFeed_r5 : List (DOper × List Nat) := [
  o1 4 (.mv (.k (.list 1 ⟨true, true, false⟩ []))) [],
  o1 5 (.mv (.k (.int .i64 0))) []]
@[reducible] def fFeed_r6 : List (DOper × List Nat) := [
  o1 22 (.mv (.t 0)) [],
  o1 23 (.nilCheck (.t 22)) [22],
  o1 24 (.fieldAddr 2 (.t 23)) [23],
  o1 25 (.load none (.t 24)) [24],
  o1 26 (.mv (.t 25)) [25],
  (⟨⟨(some 27), (some (26, true)), .mv (.t 1)⟩, 0, []⟩, []),
  (⟨⟨(some 28), (some (26, true)), .bin false .eql (.t 27) (.k (.int .u8 220))⟩, 0, []⟩, [27]),
  o1 29 (.pick (.t 26) (.t 28) (.k (.bool false))) [26, 28],
  o1 21 (.mv (.t 29)) [29]]
@[reducible] def fFeed_r7 : List (DOper × List Nat) := [
  o1 1 (.mv (.k (.int .u8 192))) []]
@[reducible] def fFeed_r8 : List (DOper × List Nat) := [
  o1 31 (.mv (.t 0)) [],
  o1 32 (.nilCheck (.t 31)) [31],
  o1 33 (.fieldAddr 2 (.t 32)) [32],
  o1 34 (.load none (.t 33)) [33],
  o1 35 (.mv (.t 34)) [34],
  (⟨⟨(some 36), (some (35, true)), .mv (.t 1)⟩, 0, []⟩, []),
  (⟨⟨(some 37), (some (35, true)), .bin false .eql (.t 36) (.k (.int .u8 221))⟩, 0, []⟩, [36]),
  o1 38 (.pick (.t 35) (.t 37) (.k (.bool false))) [35, 37],
  o1 30 (.mv (.t 38)) [38]]
@[reducible] def fFeed_r9 : List (DOper × List Nat) := [
  o1 1 (.mv (.k (.int .u8 219))) []]
@[reducible] def fFeed_r10 : List (DOper × List Nat) := [
  o1 40 (.mv (.t 0)) [],
  o1 41 (.nilCheck (.t 40)) [40],
  o1 42 (.fieldAddr 2 (.t 41)) [41],
  o1 43 (.load none (.t 42)) [42],
  o1 39 (.mv (.t 43)) [43]]
@[reducible] def fFeed_r11 : List (DOper × List Nat) := [
  o1 45 (.mv (.t 0)) [],
  o1 46 (.call 38 [(.t 45), (.k (.int .i64 7))]) [45],
  o1 44 (.mv (.t 46)) [46],
  o1 47 (.extract 0 (.t 44)) [],
  o1 48 (.extract 1 (.t 44)) [44],
  o1 6 (.mv (.t 47)) [6, 47],
  o1 7 (.mv (.t 48)) [48]]
@[reducible] def fFeed_r12 : List (DOper × List Nat) := [
  o1 49 (.mv (.t 0)) [0],
  o1 50 (.mv (.t 1)) [1],
  o1 51 (.bin false .neq (.t 50) (.k (.int .u8 192))) [50],
  o1 52 (.nilCheck (.t 49)) [49],
  o1 53 (.fieldAddr 3 (.t 52)) [52],
  (⟨⟨none, none, .store 1 (.t 53) (.t 51)⟩, 0, []⟩, [51, 53])]
@[reducible] def fFeed_r13 : List (DOper × List Nat) := [
  o1 54 (.mv (.t 7)) [7],
  o1 4 (.mv (.k (.list 1 ⟨true, true, false⟩ []))) [],
  o1 5 (.mv (.t 54)) [54]]
@[reducible] def fFeed_r14 : List (DOper × List Nat) := [
  o1 56 (.mv (.t 1)) [],
  o1 57 (.bin false .eql (.t 56) (.k (.int .u8 192))) [56],
  o1 55 (.mv (.t 57)) [57]]
@[reducible] def fFeed_r15 : List (DOper × List Nat) := [
  o1 58 (.mv (.t 0)) [0],
  o1 59 (.nilCheck (.t 58)) [58],
  o1 60 (.fieldAddr 0 (.t 59)) [59],
  o1 61 (.call 39 [(.t 60)]) [60],
  o1 4 (.mv (.t 61)) [61],
  o1 5 (.mv (.k (.int .i64 0))) []]
@[reducible] def fFeed_r16 : List (DOper × List Nat) := [
  o1 63 (.mv (.t 1)) [],
  o1 64 (.bin false .eql (.t 63) (.k (.int .u8 219))) [63],
  o1 62 (.mv (.t 64)) [64]]
@[reducible] def fFeed_r17 : List (DOper × List Nat) := [
  o1 65 (.mv (.t 0)) [0],
  o1 66 (.nilCheck (.t 65)) [65],
  o1 67 (.fieldAddr 2 (.t 66)) [66],
  (⟨⟨none, none, .store 1 (.t 67) (.k (.bool true))⟩, 0, []⟩, [67])]
@[reducible] def fFeed_r18 : List (DOper × List Nat) := [
  o1 4 (.mv (.k (.list 1 ⟨true, true, false⟩ []))) [],
  o1 5 (.mv (.k (.int .i64 0))) []]
@[reducible] def fFeed_k0 : KCode := (.keep [0] (.seq (.reg fFeed_r17) (.seq (.reg fFeed_r18) .ret)))
@[reducible] def fFeed_k1 : KCode := (.keep [0] (.seq (.reg fFeed_r15) .ret))
@[reducible] def fFeed_k2 : KCode := (.kill [55] (.seq (.reg fFeed_r16) (.cond (.t 62) fFeed_k0 (.kill [62] .skip))))
@[reducible] def fFeed_k3 : KCode := (.kill [39] (.seq (.reg fFeed_r11) (.seq (.reg fFeed_r12) (.seq (.reg fFeed_r13) .ret))))
@[reducible] def fFeed_k4 : KCode := (.kill [39] (.seq (.reg fFeed_r14) (.cond (.t 55) fFeed_k1 fFeed_k2)))
@[reducible] def fFeed_k5 : KCode := (.keep [0] (.reg fFeed_r9))
@[reducible] def fFeed_k6 : KCode := (.kill [30] (.seq (.reg fFeed_r10) (.cond (.t 39) fFeed_k3 fFeed_k4)))
@[reducible] def fFeed_k7 : KCode := (.keep [0] (.reg fFeed_r7))
@[reducible] def fFeed_k8 : KCode := (.kill [21] (.seq (.reg fFeed_r8) (.cond (.t 30) fFeed_k5 fFeed_k6)))
@[reducible] def fFeed_k9 : KCode := (.kill [11] (.seq (.reg fFeed_r4) (.seq (.reg fFeed_r5) .ret)))
@[reducible] def fFeed_k10 : KCode := (.kill [11] (.seq (.reg fFeed_r6) (.cond (.t 21) fFeed_k7 fFeed_k8)))
@[reducible] def fFeed_k11 : KCode := (.keep [] (.seq (.reg fFeed_r2) .ret))
@[reducible] def fFeed_k12 : KCode := (.kill [8] (.seq (.reg fFeed_r3) (.cond (.t 11) fFeed_k9 fFeed_k10)))
@[reducible] def fFeed_r19 : List (DOper × List Nat) := [
  o1 68 (.mv (.t 0)) [],
  o1 69 (.nilCheck (.t 68)) [68],
  o1 70 (.fieldAddr 2 (.t 69)) [69],
  (⟨⟨none, none, .store 1 (.t 70) (.k (.bool false))⟩, 0, []⟩, [70])]
@[reducible] def fFeed_r20 : List (DOper × List Nat) := [
  o1 71 (.mv (.t 0)) [],
  o1 72 (.nilCheck (.t 71)) [71],
  o1 73 (.fieldAddr 0 (.t 72)) [72],
  o1 74 (.mv (.t 1)) [1],
  o1 75 (.call 40 [(.t 73), (.t 74)]) [73, 74],
  o1 76 (.un .not (.t 75)) [75]]
@[reducible] def fFeed_r21 : List (DOper × List Nat) := [
  o1 77 (.mv (.t 0)) [0],
  o1 78 (.call 38 [(.t 77), (.k (.int .i64 17))]) [77],
  o1 79 (.extract 0 (.t 78)) [],
  o1 80 (.extract 1 (.t 78)) [78],
  o1 4 (.mv (.t 79)) [79],
  o1 5 (.mv (.t 80)) [80]]
@[reducible] def fFeed_k13 : KCode := (.kill [76] (.seq (.reg fFeed_r21) .ret))
@[reducible] def fFeed_r22 : List (DOper × List Nat) := [
  o1 4 (.mv (.k (.list 1 ⟨true, true, false⟩ []))) [],
  o1 5 (.mv (.k (.int .i64 0))) []]
/-- (*bosun/deslip.Decoder).Feed -/
@[reducible] def fFeed : KCode := (.seq (.reg fFeed_r0) (.seq (.block 0 (.seq (.reg fFeed_r1) (.cond (.t 8) fFeed_k11 fFeed_k12))) (.keep [0, 1] (.seq (.reg fFeed_r19) (.seq (.seq (.reg fFeed_r20) (.cond (.t 76) fFeed_k13 (.keep [] .skip))) (.keep [] (.seq (.reg fFeed_r22) .ret)))))))
@[reducible] def fFeed_rs : List IRes := [.tmp 4, .tmp 5]
theorem fFeed_low : lowFunc Try.prog 29 [] [] = some ⟨fFeed.bare, fFeed_rs, 81⟩ := by kernel_rfl

@[reducible] def fSameE_r0 : List (DOper × List Nat) := [
  o1 4 (.mv (.k (.bool false))) [4]]
@[reducible] def fSameE_r1 : List (DOper × List Nat) := [
  o1 6 (.mv (.t 0)) [],
  o1 7 (.len true (.t 6)) [6],
  o1 8 (.mv (.t 1)) [],
  o1 9 (.len true (.t 8)) [8],
  o1 10 (.bin false .neq (.t 7) (.t 9)) [7, 9]]
@[reducible] def fSameE_r2 : List (DOper × List Nat) := [
  o1 4 (.mv (.k (.bool false))) []]
@[reducible] def fSameE_k0 : KCode := (.keep [] (.seq (.reg fSameE_r2) .ret))
@[reducible] def fSameE_r3 : List (DOper × List Nat) := [
  o1 11 (.mv (.t 0)) [],
  o1 12 (.len true (.t 11)) [11],
  o1 13 (.mv (.k (.int .i64 0))) []]
@[reducible] def fSameE_r4 : List (DOper × List Nat) := [
  o1 14 (.bin false .lss (.t 13) (.t 12)) []]
@[reducible] def fSameE_r5 : List (DOper × List Nat) := [
  o1 15 (.mv (.t 13)) [],
  o1 5 (.mv (.t 15)) [15]]
@[reducible] def fSameE_r6 : List (DOper × List Nat) := [
  o1 16 (.mv (.t 0)) [],
  o2 17 1 (.mv (.t 5)) [],
  o2 18 2 (.idxS 3 (.t 16) (.t 17)) [16, 17],
  o2 19 3 (.fieldAddr 0 (.t 18)) [18],
  o2 20 4 (.load none (.t 19)) [19],
  o2 21 5 (.mv (.t 1)) [],
  o2 22 6 (.mv (.t 5)) [],
  o2 23 7 (.idxS 3 (.t 21) (.t 22)) [21, 22],
  o2 24 8 (.fieldAddr 0 (.t 23)) [23],
  o2 25 9 (.load none (.t 24)) [24],
  o2 26 10 (.bin false .neq (.t 20) (.t 25)) [20, 25],
  o2 27 11 (.mv (.t 26)) [26],
  (⟨⟨(some 28), (some (27, false)), .mv (.t 0)⟩, 12, []⟩, []),
  (⟨⟨(some 29), (some (27, false)), .mv (.t 5)⟩, 13, []⟩, []),
  (⟨⟨(some 30), (some (27, false)), .idxS 3 (.t 28) (.t 29)⟩, 14, []⟩, [28, 29]),
  (⟨⟨(some 31), (some (27, false)), .fieldAddr 2 (.t 30)⟩, 15, []⟩, [30]),
  (⟨⟨(some 32), (some (27, false)), .load none (.t 31)⟩, 16, []⟩, [31]),
  (⟨⟨(some 33), (some (27, false)), .mv (.t 1)⟩, 17, []⟩, []),
  (⟨⟨(some 34), (some (27, false)), .mv (.t 5)⟩, 18, []⟩, []),
  (⟨⟨(some 35), (some (27, false)), .idxS 3 (.t 33) (.t 34)⟩, 19, []⟩, [33, 34]),
  (⟨⟨(some 36), (some (27, false)), .fieldAddr 2 (.t 35)⟩, 20, []⟩, [35]),
  (⟨⟨(some 37), (some (27, false)), .load none (.t 36)⟩, 21, []⟩, [36]),
  (⟨⟨(some 38), (some (27, false)), .bin false .neq (.t 32) (.t 37)⟩, 22, []⟩, [32, 37]),
  o2 39 23 (.pick (.t 27) (.k (.bool true)) (.t 38)) [27, 38],
  o2 40 24 (.mv (.t 39)) [39],
  (⟨⟨(some 41), (some (40, false)), .mv (.t 0)⟩, 25, []⟩, []),
  (⟨⟨(some 42), (some (40, false)), .mv (.t 5)⟩, 26, []⟩, []),
  (⟨⟨(some 43), (some (40, false)), .idxS 3 (.t 41) (.t 42)⟩, 27, []⟩, [41, 42]),
  (⟨⟨(some 44), (some (40, false)), .fieldAddr 1 (.t 43)⟩, 28, []⟩, [43]),
  (⟨⟨(some 45), (some (40, false)), .load none (.t 44)⟩, 29, []⟩, [44]),
  (⟨⟨(some 46), (some (40, false)), .toStr (.t 45)⟩, 30, []⟩, [45]),
  (⟨⟨(some 47), (some (40, false)), .mv (.t 1)⟩, 31, []⟩, []),
  (⟨⟨(some 48), (some (40, false)), .mv (.t 5)⟩, 32, []⟩, [5]),
  (⟨⟨(some 49), (some (40, false)), .idxS 3 (.t 47) (.t 48)⟩, 33, []⟩, [47, 48]),
  (⟨⟨(some 50), (some (40, false)), .fieldAddr 1 (.t 49)⟩, 34, []⟩, [49]),
  (⟨⟨(some 51), (some (40, false)), .load none (.t 50)⟩, 35, []⟩, [50]),
  (⟨⟨(some 52), (some (40, false)), .toStr (.t 51)⟩, 36, []⟩, [51]),
  (⟨⟨(some 53), (some (40, false)), .bin false .neq (.t 46) (.t 52)⟩, 37, []⟩, [46, 52]),
  o2 54 38 (.pick (.t 40) (.k (.bool true)) (.t 53)) [40, 53]]
@[reducible] def fSameE_r7 : List (DOper × List Nat) := [
  o1 4 (.mv (.k (.bool false))) []]
@[reducible] def fSameE_k1 : KCode := (.keep [] (.seq (.reg fSameE_r7) .ret))
@[reducible] def fSameE_r8 : List (DOper × List Nat) := [
  o1 55 (.bin false .add (.t 13) (.k (.int .i64 1))) [13],
  o1 13 (.mv (.t 55)) [55]]
/-- live: [0, 1, 12, 13] -/
@[reducible] def fSameE_l2 : KCode := (.seq (.reg fSameE_r4) (.seq (.cond (.t 14) (.kill [14] .skip) (.keep [] (.exit 0))) (.kill [14] (.seq (.block 1 (.seq (.reg fSameE_r5) (.seq (.draw fSameE_r6) (.cond (.t 54) fSameE_k1 (.kill [54] .skip))))) (.keep [0, 1, 12, 13] (.reg fSameE_r8))))))
@[reducible] def fSameE_r9 : List (DOper × List Nat) := [
  o1 4 (.mv (.k (.bool true))) []]
/-- bosun/bosunlaw10.same -/
@[reducible] def fSameE : KCode := (.seq (.reg fSameE_r0) (.seq (.seq (.reg fSameE_r1) (.cond (.t 10) fSameE_k0 (.kill [10] .skip))) (.keep [0, 1] (.seq (.seq (.reg fSameE_r3) (.block 0 (.loop fSameE_l2))) (.keep [] (.seq (.reg fSameE_r9) .ret))))))
@[reducible] def fSameE_rs : List IRes := [.tmp 4]
theorem fSameE_low : lowFunc Try.prog 25 [] [] = some ⟨fSameE.bare, fSameE_rs, 56⟩ := by kernel_rfl

@[reducible] def fFeedL_r0 : List (DOper × List Nat) := [
  o1 4 (.mv (.k (.list 1 ⟨true, true, false⟩ []))) [4]]
@[reducible] def fFeedL_r1 : List (DOper × List Nat) := [
  o1 5 (.mv (.k (.list 1 ⟨true, true, false⟩ []))) []]
@[reducible] def fFeedL_r2 : List (DOper × List Nat) := [
  o1 10 (.mv (.t 1)) [1],
  o1 11 (.len true (.t 10)) [],
  o1 12 (.mv (.k (.int .i64 0))) []]
@[reducible] def fFeedL_r3 : List (DOper × List Nat) := [
  o1 13 (.bin false .lss (.t 12) (.t 11)) []]
@[reducible] def fFeedL_r4 : List (DOper × List Nat) := [
  o1 14 (.idxS 1 (.t 10) (.t 12)) [],
  o1 15 (.load none (.t 14)) [14],
  o1 7 (.mv (.t 15)) [15]]
@[reducible] def fFeedL_r5 : List (DOper × List Nat) := [
  o1 17 (.mv (.t 0)) [],
  o1 18 (.mv (.t 7)) [7],
  o1 19 (.call 29 [(.t 17), (.t 18)]) [17, 18],
  o1 16 (.mv (.t 19)) [19],
  o1 20 (.extract 0 (.t 16)) [],
  o1 21 (.extract 1 (.t 16)) [16],
  o1 8 (.mv (.t 20)) [20],
  o1 9 (.mv (.t 21)) [21]]
@[reducible] def fFeedL_r6 : List (DOper × List Nat) := [
  o1 27 (.mv (.t 9)) [],
  o1 28 (.bin false .neq (.t 27) (.k (.int .i64 0))) [27],
  o1 26 (.mv (.t 28)) [28]]
@[reducible] def fFeedL_r7 : List (DOper × List Nat) := [
  o1 29 (.mv (.t 5)) [5],
  o1 30 (.mv (.t 9)) [9],
  o1 31 (.mv (.t 8)) [8],
  o1 32 (.build [(.int .i64 0), (.list 1 ⟨true, true, false⟩ []), (.int .i64 0)] [(0, 1, (.k (.int .i64 2))), (2, 1, (.t 30)), (1, 1, (.t 31))]) [30, 31],
  o1 33 (.buildF 64 3 [(.int .i64 0), (.list 1 ⟨true, true, false⟩ []), (.int .i64 0)] [(0, 3, (.t 32))]) [32],
  o1 34 (.appO 64 3 40 (.t 29) (.t 33)) [29, 33],
  o1 5 (.mv (.t 34)) [34]]
@[reducible] def fFeedL_r8 : List (DOper × List Nat) := [
  o1 36 (.mv (.t 8)) [],
  o1 37 (.len true (.t 36)) [36],
  o1 38 (.bin false .gtr (.t 37) (.k (.int .i64 0))) [37],
  o1 35 (.mv (.t 38)) [38]]
@[reducible] def fFeedL_r9 : List (DOper × List Nat) := [
  o1 39 (.mv (.t 5)) [5],
  o1 40 (.mv (.t 8)) [8],
  o1 41 (.build [(.int .i64 0), (.list 1 ⟨true, true, false⟩ []), (.int .i64 0)] [(0, 1, (.k (.int .i64 1))), (1, 1, (.t 40))]) [40],
  o1 42 (.buildF 64 3 [(.int .i64 0), (.list 1 ⟨true, true, false⟩ []), (.int .i64 0)] [(0, 3, (.t 41))]) [41],
  o1 43 (.appO 64 3 40 (.t 39) (.t 42)) [39, 42],
  o1 5 (.mv (.t 43)) [43]]
@[reducible] def fFeedL_r10 : List (DOper × List Nat) := [
  o1 22 (.mv (.t 5)) [5],
  o1 23 (.build [(.int .i64 0), (.list 1 ⟨true, true, false⟩ []), (.int .i64 0)] []) [],
  o1 24 (.buildF 64 3 [(.int .i64 0), (.list 1 ⟨true, true, false⟩ []), (.int .i64 0)] [(0, 3, (.t 23))]) [23],
  o1 25 (.appO 64 3 40 (.t 22) (.t 24)) [22, 24],
  o1 5 (.mv (.t 25)) [25]]
@[reducible] def fFeedL_k0 : KCode := (.kill [35] (.reg fFeedL_r9))
@[reducible] def fFeedL_k1 : KCode := (.kill [8, 35] (.reg fFeedL_r10))
@[reducible] def fFeedL_k2 : KCode := (.kill [26] (.reg fFeedL_r7))
@[reducible] def fFeedL_k3 : KCode := (.kill [9, 26] (.seq (.reg fFeedL_r8) (.cond (.t 35) fFeedL_k0 fFeedL_k1)))
@[reducible] def fFeedL_r11 : List (DOper × List Nat) := [
  o1 44 (.bin false .add (.t 12) (.k (.int .i64 1))) [12],
  o1 12 (.mv (.t 44)) [44]]
/-- live: [0, 5, 10, 11, 12] -/
@[reducible] def fFeedL_l4 : KCode := (.seq (.reg fFeedL_r3) (.seq (.cond (.t 13) (.kill [13] .skip) (.keep [5] (.exit 0))) (.kill [13] (.seq (.block 1 (.seq (.reg fFeedL_r4) (.seq (.reg fFeedL_r5) (.block 2 (.seq (.reg fFeedL_r6) (.cond (.t 26) fFeedL_k2 fFeedL_k3)))))) (.keep [0, 5, 10, 11, 12] (.reg fFeedL_r11))))))
@[reducible] def fFeedL_r12 : List (DOper × List Nat) := [
  o1 45 (.mv (.t 5)) [5],
  o1 4 (.mv (.t 45)) [45]]
/-- bosun/bosunlaw10.feed -/
@[reducible] def fFeedL : KCode := (.seq (.reg fFeedL_r0) (.seq (.reg fFeedL_r1) (.seq (.seq (.reg fFeedL_r2) (.block 0 (.loop fFeedL_l4))) (.keep [5] (.seq (.reg fFeedL_r12) .ret)))))
@[reducible] def fFeedL_rs : List IRes := [.tmp 4]
theorem fFeedL_low : lowFunc Try.prog 26 [] [] = some ⟨fFeedL.bare, fFeedL_rs, 46⟩ := by kernel_rfl

@[reducible] def fREnc_r0 : List (DOper × List Nat) := [
  o1 2 (.mv (.k (.list 1 ⟨true, true, false⟩ []))) [2]]
@[reducible] def fREnc_r1 : List (DOper × List Nat) := [
  o1 3 (.mv (.k (.list 1 ⟨true, true, false⟩ []))) []]
@[reducible] def fREnc_r2 : List (DOper × List Nat) := [
  o1 4 (.mv (.k (.int .i64 0))) []]
@[reducible] def fREnc_r3 : List (DOper × List Nat) := [
  o1 5 (.mv (.t 4)) [],
  o1 6 (.mv (.t 0)) [],
  o1 7 (.len true (.t 6)) [6],
  o1 8 (.bin false .lss (.t 5) (.t 7)) [5, 7]]
@[reducible] def fREnc_r4 : List (DOper × List Nat) := [
  o1 11 (.mv (.t 0)) [],
  o1 12 (.mv (.t 4)) [],
  o1 13 (.idxS 1 (.t 11) (.t 12)) [11, 12],
  o1 14 (.load none (.t 13)) [13],
  o1 15 (.bin false .eql (.t 14) (.k (.int .u8 192))) [14]]
@[reducible] def fREnc_r5 : List (DOper × List Nat) := [
  o1 16 (.mv (.t 3)) [3],
  o1 17 (.buildF 5 1 [(.int .u8 0)] [(0, 1, (.k (.int .u8 219)))]) [],
  o1 18 (.appO 5 1 1 (.t 16) (.t 17)) [16, 17],
  o1 3 (.mv (.t 18)) [18]]
@[reducible] def fREnc_r6 : List (DOper × List Nat) := [
  o1 19 (.mv (.t 3)) [3],
  o1 20 (.buildF 5 1 [(.int .u8 0)] [(0, 1, (.k (.int .u8 220)))]) [],
  o1 21 (.appO 5 1 1 (.t 19) (.t 20)) [19, 20],
  o1 3 (.mv (.t 21)) [21]]
@[reducible] def fREnc_r7 : List (DOper × List Nat) := [
  o1 22 (.mv (.t 0)) [],
  o1 23 (.mv (.t 4)) [],
  o1 24 (.idxS 1 (.t 22) (.t 23)) [22, 23],
  o1 25 (.load none (.t 24)) [24],
  o1 26 (.bin false .eql (.t 25) (.k (.int .u8 219))) [25]]
@[reducible] def fREnc_r8 : List (DOper × List Nat) := [
  o1 27 (.mv (.t 3)) [3],
  o1 28 (.buildF 5 1 [(.int .u8 0)] [(0, 1, (.k (.int .u8 219)))]) [],
  o1 29 (.appO 5 1 1 (.t 27) (.t 28)) [27, 28],
  o1 3 (.mv (.t 29)) [29]]
@[reducible] def fREnc_r9 : List (DOper × List Nat) := [
  o1 30 (.mv (.t 3)) [3],
  o1 31 (.buildF 5 1 [(.int .u8 0)] [(0, 1, (.k (.int .u8 221)))]) [],
  o1 32 (.appO 5 1 1 (.t 30) (.t 31)) [30, 31],
  o1 3 (.mv (.t 32)) [32]]
@[reducible] def fREnc_r10 : List (DOper × List Nat) := [
  o1 33 (.mv (.t 3)) [3],
  o1 34 (.mv (.t 0)) [],
  o1 35 (.mv (.t 4)) [],
  o1 36 (.idxS 1 (.t 34) (.t 35)) [34, 35],
  o1 37 (.load none (.t 36)) [36],
  o1 38 (.buildF 5 1 [(.int .u8 0)] [(0, 1, (.t 37))]) [37],
  o1 39 (.appO 5 1 1 (.t 33) (.t 38)) [33, 38],
  o1 3 (.mv (.t 39)) [39]]
@[reducible] def fREnc_k0 : KCode := (.kill [26] (.seq (.reg fREnc_r8) (.reg fREnc_r9)))
@[reducible] def fREnc_k1 : KCode := (.kill [26] (.reg fREnc_r10))
@[reducible] def fREnc_k2 : KCode := (.kill [15] (.seq (.reg fREnc_r5) (.reg fREnc_r6)))
@[reducible] def fREnc_k3 : KCode := (.kill [15] (.seq (.reg fREnc_r7) (.cond (.t 26) fREnc_k0 fREnc_k1)))
@[reducible] def fREnc_r11 : List (DOper × List Nat) := [
  o1 9 (.mv (.t 4)) [4],
  o1 10 (.bin false .add (.t 9) (.k (.int .i64 1))) [9],
  o1 4 (.mv (.t 10)) [10]]
/-- live: [0, 3, 4] -/
@[reducible] def fREnc_l4 : KCode := (.seq (.seq (.reg fREnc_r3) (.cond (.t 8) (.kill [8] .skip) (.keep [3] (.exit 0)))) (.keep [0, 3, 4] (.seq (.block 1 (.seq (.reg fREnc_r4) (.cond (.t 15) fREnc_k2 fREnc_k3))) (.keep [0, 3, 4] (.reg fREnc_r11)))))
@[reducible] def fREnc_r12 : List (DOper × List Nat) := [
  o1 40 (.mv (.t 3)) [3],
  o1 41 (.buildF 5 1 [(.int .u8 0)] [(0, 1, (.k (.int .u8 192)))]) [],
  o1 42 (.appO 5 1 1 (.t 40) (.t 41)) [40, 41],
  o1 2 (.mv (.t 42)) [42]]
/-- bosun/bosunref09.Encode -/
@[reducible] def fREnc : KCode := (.seq (.reg fREnc_r0) (.seq (.reg fREnc_r1) (.seq (.seq (.reg fREnc_r2) (.block 0 (.loop fREnc_l4))) (.keep [3] (.seq (.reg fREnc_r12) .ret)))))
@[reducible] def fREnc_rs : List IRes := [.tmp 2]
theorem fREnc_low : lowFunc Try.prog 28 [] [] = some ⟨fREnc.bare, fREnc_rs, 43⟩ := by kernel_rfl

@[reducible] def fParts_r0 : List (DOper × List Nat) := [
  o1 2 (.mv (.k (.list 1 ⟨true, true, false⟩ []))) [2]]
@[reducible] def fParts_r1 : List (DOper × List Nat) := [
  o1 3 (.mv (.k (.list 1 ⟨true, true, false⟩ []))) []]
@[reducible] def fParts_r2 : List (DOper × List Nat) := [
  o1 4 (.mv (.k (.int .i64 0))) []]
@[reducible] def fParts_r3 : List (DOper × List Nat) := [
  o1 5 (.mv (.k (.int .i64 0))) []]
@[reducible] def fParts_r4 : List (DOper × List Nat) := [
  o1 6 (.mv (.t 5)) [],
  o1 7 (.mv (.t 0)) [],
  o1 8 (.len true (.t 7)) [7],
  o1 9 (.bin false .lss (.t 6) (.t 8)) [6, 8]]
@[reducible] def fParts_k0 : KCode := (.kill [5, 9] (.exit 0))
@[reducible] def fParts_r5 : List (DOper × List Nat) := [
  o1 12 (.mv (.t 0)) [],
  o1 13 (.mv (.t 5)) [],
  o1 14 (.idxS 1 (.t 12) (.t 13)) [12, 13],
  o1 15 (.load none (.t 14)) [14],
  o1 16 (.bin false .eql (.t 15) (.k (.int .u8 192))) [15]]
@[reducible] def fParts_r6 : List (DOper × List Nat) := [
  o1 17 (.mv (.t 3)) [3],
  o1 18 (.mv (.t 0)) [],
  o1 19 (.mv (.t 4)) [4],
  o1 20 (.mv (.t 5)) [],
  o1 21 (.bin false .add (.t 20) (.k (.int .i64 1))) [20],
  o1 22 (.slS 1 (.t 18) (some (.t 19)) (some (.t 21)) none) [18, 19, 21],
  o1 23 (.buildF 22 1 [(.list 1 ⟨true, true, false⟩ [])] [(0, 1, (.t 22))]) [22],
  o1 24 (.appO 22 1 24 (.t 17) (.t 23)) [17, 23],
  o1 3 (.mv (.t 24)) [24]]
@[reducible] def fParts_r7 : List (DOper × List Nat) := [
  o1 25 (.mv (.t 5)) [],
  o1 26 (.bin false .add (.t 25) (.k (.int .i64 1))) [25],
  o1 4 (.mv (.t 26)) [26]]
@[reducible] def fParts_k1 : KCode := (.kill [16] (.seq (.reg fParts_r6) (.reg fParts_r7)))
@[reducible] def fParts_r8 : List (DOper × List Nat) := [
  o1 10 (.mv (.t 5)) [5],
  o1 11 (.bin false .add (.t 10) (.k (.int .i64 1))) [10],
  o1 5 (.mv (.t 11)) [11]]
/-- live: [0, 3, 4, 5] -/
@[reducible] def fParts_l2 : KCode := (.seq (.seq (.reg fParts_r4) (.cond (.t 9) (.kill [9] .skip) fParts_k0)) (.kill [6, 7, 8, 9] (.seq (.block 1 (.seq (.reg fParts_r5) (.cond (.t 16) fParts_k1 (.kill [16] .skip)))) (.keep [0, 3, 4, 5] (.reg fParts_r8)))))
@[reducible] def fParts_r9 : List (DOper × List Nat) := [
  o1 27 (.mv (.t 3)) [3],
  o1 28 (.mv (.t 0)) [0],
  o1 29 (.mv (.t 4)) [4],
  o1 30 (.slS 1 (.t 28) (some (.t 29)) none none) [28, 29],
  o1 31 (.buildF 22 1 [(.list 1 ⟨true, true, false⟩ [])] [(0, 1, (.t 30))]) [30],
  o1 32 (.appO 22 1 24 (.t 27) (.t 31)) [27, 31],
  o1 2 (.mv (.t 32)) [32]]
/-- bosun/bosunref09.Parts -/
@[reducible] def fParts : KCode := (.seq (.reg fParts_r0) (.seq (.reg fParts_r1) (.seq (.reg fParts_r2) (.seq (.seq (.reg fParts_r3) (.block 0 (.loop fParts_l2))) (.keep [0, 3, 4] (.seq (.reg fParts_r9) .ret))))))
@[reducible] def fParts_rs : List IRes := [.tmp 2]
theorem fParts_low : lowFunc Try.prog 36 [] [] = some ⟨fParts.bare, fParts_rs, 33⟩ := by kernel_rfl

@[reducible] def fPart_r0 : List (DOper × List Nat) := [
  o1 4 (.mv (.k (.list 1 ⟨true, true, false⟩ []))) [4]]
@[reducible] def fPart_r1 : List (DOper × List Nat) := [
  o1 9 (.mv (.t 0)) [],
  o1 10 (.len true (.t 9)) [9],
  o1 11 (.makeS 64 3 40 [(.int .i64 0), (.list 1 ⟨true, true, false⟩ []), (.int .i64 0)] (.t 10) (.t 10)) [10],
  o1 5 (.mv (.t 11)) [11]]
@[reducible] def fPart_r2 : List (DOper × List Nat) := [
  o1 6 (.mv (.k (.list 1 ⟨true, true, false⟩ []))) []]
@[reducible] def fPart_r3 : List (DOper × List Nat) := [
  o1 7 (.mv (.k (.int .i64 0))) []]
@[reducible] def fPart_r4 : List (DOper × List Nat) := [
  o1 12 (.mv (.t 7)) [],
  o1 13 (.mv (.t 0)) [],
  o1 14 (.len true (.t 13)) [13],
  o1 15 (.bin false .lss (.t 12) (.t 14)) [12, 14]]
@[reducible] def fPart_r5 : List (DOper × List Nat) := [
  o1 18 (.mv (.t 0)) [],
  o1 19 (.mv (.t 7)) [],
  o1 20 (.idxS 1 (.t 18) (.t 19)) [18, 19],
  o1 21 (.load none (.t 20)) [20],
  o1 8 (.mv (.t 21)) [21]]
@[reducible] def fPart_r6 : List (DOper × List Nat) := [
  o1 22 (.mv (.t 8)) [],
  o1 23 (.bin false .eql (.t 22) (.k (.int .u8 192))) [22]]
@[reducible] def fPart_r7 : List (DOper × List Nat) := [
  o1 24 (.mv (.t 6)) [],
  o1 25 (.len true (.t 24)) [24],
  o1 26 (.bin false .gtr (.t 25) (.k (.int .i64 0))) [25]]
@[reducible] def fPart_r8 : List (DOper × List Nat) := [
  o1 27 (.mv (.t 5)) [],
  o1 28 (.mv (.t 7)) [7],
  o1 29 (.mv (.t 6)) [6],
  o1 30 (.build [(.int .i64 0), (.list 1 ⟨true, true, false⟩ []), (.int .i64 0)] [(0, 1, (.k (.int .i64 1))), (1, 1, (.t 29))]) [29],
  o1 31 (.idxS 3 (.t 27) (.t 28)) [27, 28],
  (⟨⟨none, none, .store 3 (.t 31) (.t 30)⟩, 0, []⟩, [30, 31])]
@[reducible] def fPart_k0 : KCode := (.kill [26] (.reg fPart_r8))
@[reducible] def fPart_r9 : List (DOper × List Nat) := [
  o1 32 (.mv (.t 5)) [5],
  o1 4 (.mv (.t 32)) [32]]
@[reducible] def fPart_k1 : KCode := (.keep [5, 6, 7] (.seq (.seq (.reg fPart_r7) (.cond (.t 26) fPart_k0 (.keep [5] .skip))) (.keep [5] (.seq (.reg fPart_r9) .ret))))
@[reducible] def fPart_r10 : List (DOper × List Nat) := [
  o1 33 (.mv (.t 8)) [],
  o1 34 (.bin false .eql (.t 33) (.k (.int .u8 219))) [33]]
@[reducible] def fPart_r11 : List (DOper × List Nat) := [
  o1 35 (.mv (.t 7)) [],
  o1 36 (.bin false .add (.t 35) (.k (.int .i64 1))) [35],
  o1 37 (.mv (.t 0)) [],
  o1 38 (.len true (.t 37)) [37],
  o1 39 (.bin false .eql (.t 36) (.t 38)) [36, 38]]
@[reducible] def fPart_r12 : List (DOper × List Nat) := [
  o1 40 (.mv (.t 5)) [5],
  o1 4 (.mv (.t 40)) [40]]
@[reducible] def fPart_k2 : KCode := (.keep [5] (.seq (.reg fPart_r12) .ret))
@[reducible] def fPart_r13 : List (DOper × List Nat) := [
  o1 41 (.mv (.t 7)) [7],
  o1 42 (.bin false .add (.t 41) (.k (.int .i64 1))) [41],
  o1 7 (.mv (.t 42)) [42]]
@[reducible] def fPart_r14 : List (DOper × List Nat) := [
  o1 43 (.mv (.t 0)) [],
  o1 44 (.mv (.t 7)) [],
  o1 45 (.idxS 1 (.t 43) (.t 44)) [43, 44],
  o1 46 (.load none (.t 45)) [45],
  o1 8 (.mv (.t 46)) [46]]
@[reducible] def fPart_r15 : List (DOper × List Nat) := [
  o1 47 (.mv (.t 8)) [],
  o1 48 (.bin false .neq (.t 47) (.k (.int .u8 220))) [47],
  o1 49 (.mv (.t 48)) [48],
  (⟨⟨(some 50), (some (49, true)), .mv (.t 8)⟩, 0, []⟩, []),
  (⟨⟨(some 51), (some (49, true)), .bin false .neq (.t 50) (.k (.int .u8 221))⟩, 0, []⟩, [50]),
  o1 52 (.pick (.t 49) (.t 51) (.k (.bool false))) [49, 51]]
@[reducible] def fPart_r16 : List (DOper × List Nat) := [
  o1 53 (.mv (.t 5)) [],
  o1 54 (.mv (.t 7)) [7],
  o1 55 (.build [(.int .i64 0), (.list 1 ⟨true, true, false⟩ []), (.int .i64 0)] [(0, 1, (.k (.int .i64 2))), (2, 1, (.k (.int .i64 7)))]) [],
  o1 56 (.idxS 3 (.t 53) (.t 54)) [53, 54],
  (⟨⟨none, none, .store 3 (.t 56) (.t 55)⟩, 0, []⟩, [55, 56])]
@[reducible] def fPart_r17 : List (DOper × List Nat) := [
  o1 57 (.mv (.t 5)) [5],
  o1 4 (.mv (.t 57)) [57]]
@[reducible] def fPart_k3 : KCode := (.keep [5, 7] (.seq (.reg fPart_r16) (.seq (.reg fPart_r17) .ret)))
@[reducible] def fPart_r18 : List (DOper × List Nat) := [
  o1 58 (.mv (.t 8)) [8],
  o1 59 (.bin false .eql (.t 58) (.k (.int .u8 220))) [58]]
@[reducible] def fPart_r19 : List (DOper × List Nat) := [
  o1 8 (.mv (.k (.int .u8 192))) []]
@[reducible] def fPart_r20 : List (DOper × List Nat) := [
  o1 8 (.mv (.k (.int .u8 219))) []]
@[reducible] def fPart_k4 : KCode := (.kill [59] (.reg fPart_r19))
@[reducible] def fPart_k5 : KCode := (.kill [59] (.reg fPart_r20))
@[reducible] def fPart_k6 : KCode := (.kill [8, 34] (.seq (.seq (.reg fPart_r11) (.cond (.t 39) fPart_k2 (.kill [39] .skip))) (.keep [0, 1, 5, 6, 7] (.seq (.reg fPart_r13) (.seq (.reg fPart_r14) (.seq (.seq (.reg fPart_r15) (.cond (.t 52) fPart_k3 (.kill [52] .skip))) (.keep [0, 1, 5, 6, 7, 8] (.seq (.reg fPart_r18) (.cond (.t 59) fPart_k4 fPart_k5)))))))))
@[reducible] def fPart_r21 : List (DOper × List Nat) := [
  o1 60 (.mv (.t 6)) [],
  o1 61 (.len true (.t 60)) [60],
  o1 62 (.mv (.t 1)) [],
  o1 63 (.bin false .eql (.t 61) (.t 62)) [61, 62]]
@[reducible] def fPart_r22 : List (DOper × List Nat) := [
  o1 64 (.mv (.t 5)) [],
  o1 65 (.mv (.t 7)) [7],
  o1 66 (.build [(.int .i64 0), (.list 1 ⟨true, true, false⟩ []), (.int .i64 0)] [(0, 1, (.k (.int .i64 2))), (2, 1, (.k (.int .i64 17)))]) [],
  o1 67 (.idxS 3 (.t 64) (.t 65)) [64, 65],
  (⟨⟨none, none, .store 3 (.t 67) (.t 66)⟩, 0, []⟩, [66, 67])]
@[reducible] def fPart_r23 : List (DOper × List Nat) := [
  o1 68 (.mv (.t 5)) [5],
  o1 4 (.mv (.t 68)) [68]]
@[reducible] def fPart_k7 : KCode := (.keep [5, 7] (.seq (.reg fPart_r22) (.seq (.reg fPart_r23) .ret)))
@[reducible] def fPart_r24 : List (DOper × List Nat) := [
  o1 69 (.buildF 5 1 [] []) [],
  o1 70 (.mv (.t 6)) [6],
  o1 71 (.appO 5 1 1 (.t 69) (.t 70)) [69, 70],
  o1 72 (.mv (.t 8)) [8],
  o1 73 (.buildF 5 1 [(.int .u8 0)] [(0, 1, (.t 72))]) [72],
  o1 74 (.appO 5 1 1 (.t 71) (.t 73)) [71, 73],
  o1 6 (.mv (.t 74)) [74]]
@[reducible] def fPart_r25 : List (DOper × List Nat) := [
  o1 16 (.mv (.t 7)) [7],
  o1 17 (.bin false .add (.t 16) (.k (.int .i64 1))) [16],
  o1 7 (.mv (.t 17)) [17]]
/-- live: [0, 1, 5, 6, 7] -/
@[reducible] def fPart_l8 : KCode := (.seq (.seq (.reg fPart_r4) (.cond (.t 15) (.kill [15] .skip) (.keep [5] (.exit 0)))) (.kill [12, 13, 14, 15] (.seq (.block 1 (.seq (.reg fPart_r5) (.seq (.seq (.reg fPart_r6) (.cond (.t 23) fPart_k1 (.kill [23] .skip))) (.keep [0, 1, 5, 6, 7, 8] (.seq (.seq (.reg fPart_r10) (.cond (.t 34) fPart_k6 (.kill [34] .skip))) (.keep [0, 1, 5, 6, 7, 8] (.seq (.seq (.reg fPart_r21) (.cond (.t 63) fPart_k7 (.kill [63] .skip))) (.keep [0, 1, 5, 6, 7, 8] (.reg fPart_r24))))))))) (.keep [0, 1, 5, 6, 7] (.reg fPart_r25)))))
@[reducible] def fPart_r26 : List (DOper × List Nat) := [
  o1 75 (.mv (.t 5)) [5],
  o1 4 (.mv (.t 75)) [75]]
/-- bosun/bosunref09.part -/
@[reducible] def fPart : KCode := (.seq (.reg fPart_r0) (.seq (.reg fPart_r1) (.seq (.reg fPart_r2) (.seq (.seq (.reg fPart_r3) (.block 0 (.loop fPart_l8))) (.keep [5] (.seq (.reg fPart_r26) .ret))))))
@[reducible] def fPart_rs : List IRes := [.tmp 4]
theorem fPart_low : lowFunc Try.prog 37 [] [] = some ⟨fPart.bare, fPart_rs, 76⟩ := by kernel_rfl

@[reducible] def fEvents_r0 : List (DOper × List Nat) := [
  o1 4 (.mv (.k (.list 1 ⟨true, true, false⟩ []))) [4]]
@[reducible] def fEvents_r1 : List (DOper × List Nat) := [
  o1 5 (.mv (.k (.list 1 ⟨true, true, false⟩ []))) []]
@[reducible] def fEvents_r2 : List (DOper × List Nat) := [
  o1 8 (.mv (.t 0)) [0],
  o1 9 (.call 36 [(.t 8)]) [8],
  o1 6 (.mv (.t 9)) [9]]
@[reducible] def fEvents_r3 : List (DOper × List Nat) := [
  o1 7 (.mv (.k (.int .i64 0))) []]
@[reducible] def fEvents_r4 : List (DOper × List Nat) := [
  o1 10 (.mv (.t 7)) [],
  o1 11 (.mv (.t 6)) [],
  o1 12 (.len true (.t 11)) [11],
  o1 13 (.bin false .lss (.t 10) (.t 12)) [10, 12]]
@[reducible] def fEvents_r5 : List (DOper × List Nat) := [
  o1 16 (.mv (.t 5)) [5],
  o1 17 (.mv (.t 6)) [],
  o1 18 (.mv (.t 7)) [],
  o1 19 (.idxS 1 (.t 17) (.t 18)) [17, 18],
  o1 20 (.load none (.t 19)) [19],
  o1 21 (.mv (.t 1)) [],
  o1 22 (.call 37 [(.t 20), (.t 21)]) [20, 21],
  o1 23 (.appO 64 3 40 (.t 16) (.t 22)) [16, 22],
  o1 5 (.mv (.t 23)) [23]]
@[reducible] def fEvents_r6 : List (DOper × List Nat) := [
  o1 14 (.mv (.t 7)) [7],
  o1 15 (.bin false .add (.t 14) (.k (.int .i64 1))) [14],
  o1 7 (.mv (.t 15)) [15]]
/-- live: [1, 5, 6, 7] -/
@[reducible] def fEvents_l0 : KCode := (.seq (.seq (.reg fEvents_r4) (.cond (.t 13) (.kill [13] .skip) (.keep [5] (.exit 0)))) (.kill [10, 11, 12, 13] (.seq (.block 1 (.reg fEvents_r5)) (.keep [1, 5, 6, 7] (.reg fEvents_r6)))))
@[reducible] def fEvents_r7 : List (DOper × List Nat) := [
  o1 24 (.mv (.t 5)) [5],
  o1 4 (.mv (.t 24)) [24]]
/-- bosun/bosunref09.Events -/
@[reducible] def fEvents : KCode := (.seq (.reg fEvents_r0) (.seq (.reg fEvents_r1) (.seq (.reg fEvents_r2) (.seq (.seq (.reg fEvents_r3) (.block 0 (.loop fEvents_l0))) (.keep [5] (.seq (.reg fEvents_r7) .ret))))))
@[reducible] def fEvents_rs : List IRes := [.tmp 4]
theorem fEvents_low : lowFunc Try.prog 27 [] [] = some ⟨fEvents.bare, fEvents_rs, 25⟩ := by kernel_rfl

@[reducible] def fLives10_r0 : List (DOper × List Nat) := [
  o1 0 (.mv (.k (.bool false))) [0]]
@[reducible] def fLives10_r1 : List (DOper × List Nat) := [
  o1 5 (.call 24 [(.k (.int .i64 9))]) [],
  o1 4 (.mv (.t 5)) [5],
  o1 6 (.extract 0 (.t 4)) [],
  o1 7 (.extract 1 (.t 4)) [4],
  o1 1 (.mv (.t 6)) [6],
  o1 2 (.mv (.t 7)) [7]]
@[reducible] def fLives10_r2 : List (DOper × List Nat) := [
  o1 8 (.mv (.t 1)) [1],
  o1 9 (.buildF 5 1 [(.int .u8 0), (.int .u8 0), (.int .u8 0), (.int .u8 0), (.int .u8 0), (.int .u8 0)] [(0, 1, (.k (.int .u8 219))), (1, 1, (.k (.int .u8 1))), (2, 1, (.k (.int .u8 2))), (3, 1, (.k (.int .u8 192))), (4, 1, (.k (.int .u8 3))), (5, 1, (.k (.int .u8 192)))]) [],
  o1 10 (.call 26 [(.t 8), (.t 9)]) [8, 9],
  o1 3 (.mv (.t 10)) [10]]
@[reducible] def fLives10_r3 : List (DOper × List Nat) := [
  o1 11 (.mv (.t 2)) [2],
  o1 12 (.bin false .eql (.t 11) (.k (.int .i64 0))) [11],
  o1 13 (.mv (.t 12)) [12],
  (⟨⟨(some 14), (some (13, true)), .mv (.t 3)⟩, 0, []⟩, []),
  (⟨⟨(some 15), (some (13, true)), .len true (.t 14)⟩, 0, []⟩, [14]),
  (⟨⟨(some 16), (some (13, true)), .bin false .eql (.t 15) (.k (.int .i64 6))⟩, 0, []⟩, [15]),
  o1 17 (.pick (.t 13) (.t 16) (.k (.bool false))) [13, 16],
  o1 18 (.mv (.t 17)) [17],
  (⟨⟨(some 19), (some (18, true)), .mv (.t 3)⟩, 0, []⟩, []),
  (⟨⟨(some 20), (some (18, true)), .idxS 3 (.t 19) (.k (.int .i64 1))⟩, 0, []⟩, [19]),
  (⟨⟨(some 21), (some (18, true)), .fieldAddr 2 (.t 20)⟩, 0, []⟩, [20]),
  (⟨⟨(some 22), (some (18, true)), .load none (.t 21)⟩, 0, []⟩, [21]),
  (⟨⟨(some 23), (some (18, true)), .bin false .eql (.t 22) (.k (.int .i64 7))⟩, 0, []⟩, [22]),
  o1 24 (.pick (.t 18) (.t 23) (.k (.bool false))) [18, 23],
  o1 25 (.mv (.t 24)) [24],
  (⟨⟨(some 26), (some (25, true)), .mv (.t 3)⟩, 0, []⟩, []),
  (⟨⟨(some 27), (some (25, true)), .idxS 3 (.t 26) (.k (.int .i64 3))⟩, 0, []⟩, [26]),
  (⟨⟨(some 28), (some (25, true)), .fieldAddr 0 (.t 27)⟩, 0, []⟩, [27]),
  (⟨⟨(some 29), (some (25, true)), .load none (.t 28)⟩, 0, []⟩, [28]),
  (⟨⟨(some 30), (some (25, true)), .bin false .eql (.t 29) (.k (.int .i64 0))⟩, 0, []⟩, [29]),
  o1 31 (.pick (.t 25) (.t 30) (.k (.bool false))) [25, 30],
  o1 32 (.mv (.t 31)) [31],
  (⟨⟨(some 33), (some (32, true)), .mv (.t 3)⟩, 0, []⟩, [3]),
  (⟨⟨(some 34), (some (32, true)), .idxS 3 (.t 33) (.k (.int .i64 5))⟩, 0, []⟩, [33]),
  (⟨⟨(some 35), (some (32, true)), .fieldAddr 1 (.t 34)⟩, 0, []⟩, [34]),
  (⟨⟨(some 36), (some (32, true)), .load none (.t 35)⟩, 0, []⟩, [35]),
  (⟨⟨(some 37), (some (32, true)), .toStr (.t 36)⟩, 0, []⟩, [36]),
  (⟨⟨(some 38), (some (32, true)), .bin false .eql (.t 37) (.k (.str [3]))⟩, 0, []⟩, [37]),
  o1 39 (.pick (.t 32) (.t 38) (.k (.bool false))) [32, 38],
  o1 0 (.mv (.t 39)) [39]]
/-- bosun/bosunlaw10.lives -/
@[reducible] def fLives10 : KCode := (.seq (.reg fLives10_r0) (.seq (.reg fLives10_r1) (.seq (.reg fLives10_r2) (.seq (.reg fLives10_r3) .ret))))
@[reducible] def fLives10_rs : List IRes := [.tmp 0]
theorem fLives10_low : lowFunc Try.prog 23 [] [] = some ⟨fLives10.bare, fLives10_rs, 40⟩ := by kernel_rfl

@[reducible] def fDeslipBytes_r0 : List (DOper × List Nat) := [
  o1 4 (.mv (.k (.bool false))) [4]]
@[reducible] def fDeslipBytes_r1 : List (DOper × List Nat) := [
  o1 7 (.call 23 []) [],
  o1 8 (.un .not (.t 7)) [7],
  o1 9 (.mv (.t 8)) [8],
  (⟨⟨(some 10), (some (9, false)), .mv (.t 0)⟩, 0, []⟩, []),
  (⟨⟨(some 11), (some (9, false)), .len true (.t 10)⟩, 0, []⟩, [10]),
  (⟨⟨(some 12), (some (9, false)), .bin false .gtr (.t 11) (.k (.int .i64 1000))⟩, 0, []⟩, [11]),
  o1 13 (.pick (.t 9) (.k (.bool true)) (.t 12)) [9, 12]]
@[reducible] def fDeslipBytes_r2 : List (DOper × List Nat) := [
  o1 14 (.call 23 []) [],
  o1 4 (.mv (.t 14)) [14]]
@[reducible] def fDeslipBytes_k0 : KCode := (.keep [] (.seq (.reg fDeslipBytes_r2) .ret))
@[reducible] def fDeslipBytes_r3 : List (DOper × List Nat) := [
  o1 16 (.mv (.t 1)) [],
  o1 17 (.call 24 [(.t 16)]) [16],
  o1 15 (.mv (.t 17)) [17],
  o1 18 (.extract 0 (.t 15)) [],
  o1 19 (.extract 1 (.t 15)) [15],
  o1 5 (.mv (.t 18)) [18],
  o1 6 (.mv (.t 19)) [19]]
@[reducible] def fDeslipBytes_r4 : List (DOper × List Nat) := [
  o1 20 (.mv (.t 1)) [],
  o1 21 (.bin false .lss (.t 20) (.k (.int .i64 1))) [20],
  o1 22 (.mv (.t 21)) [21],
  (⟨⟨(some 23), (some (22, false)), .mv (.t 1)⟩, 0, []⟩, []),
  (⟨⟨(some 24), (some (22, false)), .bin false .gtr (.t 23) (.k (.int .i64 65536))⟩, 0, []⟩, [23]),
  o1 25 (.pick (.t 22) (.k (.bool true)) (.t 24)) [22, 24]]
@[reducible] def fDeslipBytes_r5 : List (DOper × List Nat) := [
  o1 26 (.mv (.t 6)) [6],
  o1 27 (.bin false .eql (.t 26) (.k (.int .i64 1))) [26],
  o1 28 (.mv (.t 27)) [27],
  (⟨⟨(some 29), (some (28, true)), .mv (.t 5)⟩, 0, []⟩, [5]),
  (⟨⟨(some 30), (some (28, true)), .isNil false 0 (.t 29)⟩, 0, []⟩, [29]),
  o1 31 (.pick (.t 28) (.t 30) (.k (.bool false))) [28, 30],
  o1 4 (.mv (.t 31)) [31]]
@[reducible] def fDeslipBytes_k1 : KCode := (.keep [5, 6] (.seq (.reg fDeslipBytes_r5) .ret))
@[reducible] def fDeslipBytes_r6 : List (DOper × List Nat) := [
  o1 32 (.mv (.t 6)) [6],
  o1 33 (.bin false .eql (.t 32) (.k (.int .i64 0))) [32],
  o1 34 (.mv (.t 33)) [33],
  (⟨⟨(some 35), (some (34, true)), .mv (.t 5)⟩, 0, []⟩, [5]),
  (⟨⟨(some 36), (some (34, true)), .mv (.t 0)⟩, 0, []⟩, []),
  (⟨⟨(some 37), (some (34, true)), .call 26 [(.t 35), (.t 36)]⟩, 0, []⟩, [35, 36]),
  (⟨⟨(some 38), (some (34, true)), .mv (.t 0)⟩, 0, []⟩, [0]),
  (⟨⟨(some 39), (some (34, true)), .mv (.t 1)⟩, 0, []⟩, [1]),
  (⟨⟨(some 40), (some (34, true)), .call 27 [(.t 38), (.t 39)]⟩, 0, []⟩, [38, 39]),
  (⟨⟨(some 41), (some (34, true)), .call 25 [(.t 37), (.t 40)]⟩, 0, []⟩, [37, 40]),
  o1 42 (.pick (.t 34) (.t 41) (.k (.bool false))) [34, 41],
  o1 4 (.mv (.t 42)) [42]]
/-- bosun/bosunlaw10.DeslipBytes -/
@[reducible] def fDeslipBytes : KCode := (.seq (.reg fDeslipBytes_r0) (.seq (.seq (.reg fDeslipBytes_r1) (.cond (.t 13) fDeslipBytes_k0 (.kill [13] .skip))) (.keep [0, 1] (.seq (.reg fDeslipBytes_r3) (.seq (.seq (.reg fDeslipBytes_r4) (.cond (.t 25) fDeslipBytes_k1 (.kill [25] .skip))) (.keep [0, 1, 5, 6] (.seq (.reg fDeslipBytes_r6) .ret)))))))
@[reducible] def fDeslipBytes_rs : List IRes := [.tmp 4]
theorem fDeslipBytes_low : lowFunc Try.prog 6 [] [] = some ⟨fDeslipBytes.bare, fDeslipBytes_rs, 43⟩ := by kernel_rfl

@[reducible] def fDeslipFrames_r0 : List (DOper × List Nat) := [
  o1 4 (.mv (.k (.bool false))) [4]]
@[reducible] def fDeslipFrames_r1 : List (DOper × List Nat) := [
  o1 12 (.call 23 []) [],
  o1 13 (.un .not (.t 12)) [12],
  o1 14 (.mv (.t 13)) [13],
  (⟨⟨(some 15), (some (14, false)), .mv (.t 0)⟩, 0, []⟩, []),
  (⟨⟨(some 16), (some (14, false)), .len true (.t 15)⟩, 0, []⟩, [15]),
  (⟨⟨(some 17), (some (14, false)), .bin false .gtr (.t 16) (.k (.int .i64 30))⟩, 0, []⟩, [16]),
  o1 18 (.pick (.t 14) (.k (.bool true)) (.t 17)) [14, 17],
  o1 19 (.mv (.t 18)) [18],
  (⟨⟨(some 20), (some (19, false)), .mv (.t 1)⟩, 0, []⟩, []),
  (⟨⟨(some 21), (some (19, false)), .len true (.t 20)⟩, 0, []⟩, [20]),
  (⟨⟨(some 22), (some (19, false)), .bin false .gtr (.t 21) (.k (.int .i64 200))⟩, 0, []⟩, [21]),
  o1 23 (.pick (.t 19) (.k (.bool true)) (.t 22)) [19, 22]]
@[reducible] def fDeslipFrames_r2 : List (DOper × List Nat) := [
  o1 24 (.call 23 []) [],
  o1 4 (.mv (.t 24)) [24]]
@[reducible] def fDeslipFrames_k0 : KCode := (.keep [] (.seq (.reg fDeslipFrames_r2) .ret))
@[reducible] def fDeslipFrames_r3 : List (DOper × List Nat) := [
  o1 26 (.call 24 [(.k (.int .i64 300))]) [],
  o1 25 (.mv (.t 26)) [26],
  o1 27 (.extract 0 (.t 25)) [],
  o1 28 (.extract 1 (.t 25)) [25],
  o1 5 (.mv (.t 27)) [27],
  o1 6 (.mv (.t 28)) [28]]
@[reducible] def fDeslipFrames_r4 : List (DOper × List Nat) := [
  o1 29 (.mv (.t 6)) [6],
  o1 30 (.bin false .neq (.t 29) (.k (.int .i64 0))) [29]]
@[reducible] def fDeslipFrames_r5 : List (DOper × List Nat) := [
  o1 4 (.mv (.k (.bool false))) []]
@[reducible] def fDeslipFrames_k1 : KCode := (.keep [] (.seq (.reg fDeslipFrames_r5) .ret))
@[reducible] def fDeslipFrames_r6 : List (DOper × List Nat) := [
  o1 31 (.mv (.t 5)) [],
  o1 32 (.mv (.t 1)) [1],
  o1 33 (.call 26 [(.t 31), (.t 32)]) [31, 32, 33]]
@[reducible] def fDeslipFrames_r7 : List (DOper × List Nat) := [
  o1 34 (.mv (.t 5)) [],
  o1 35 (.buildF 5 1 [(.int .u8 0)] [(0, 1, (.k (.int .u8 192)))]) [],
  o1 36 (.call 26 [(.t 34), (.t 35)]) [34, 35, 36]]
@[reducible] def fDeslipFrames_r8 : List (DOper × List Nat) := [
  o1 37 (.mv (.t 0)) [0],
  o1 38 (.len true (.t 37)) [],
  o1 39 (.mv (.k (.int .i64 0))) []]
@[reducible] def fDeslipFrames_r9 : List (DOper × List Nat) := [
  o1 40 (.bin false .lss (.t 39) (.t 38)) []]
@[reducible] def fDeslipFrames_r10 : List (DOper × List Nat) := [
  o1 41 (.idxS 1 (.t 37) (.t 39)) [],
  o1 42 (.load none (.t 41)) [41],
  o1 8 (.mv (.t 42)) [42]]
@[reducible] def fDeslipFrames_r11 : List (DOper × List Nat) := [
  o1 43 (.mv (.t 8)) [],
  o1 44 (.len true (.t 43)) [43],
  o1 45 (.bin false .gtr (.t 44) (.k (.int .i64 300))) [44]]
@[reducible] def fDeslipFrames_r12 : List (DOper × List Nat) := [
  o1 4 (.mv (.k (.bool true))) []]
@[reducible] def fDeslipFrames_k2 : KCode := (.keep [] (.seq (.reg fDeslipFrames_r12) .ret))
@[reducible] def fDeslipFrames_r13 : List (DOper × List Nat) := [
  o1 46 (.mv (.t 5)) [],
  o1 47 (.mv (.t 8)) [],
  o1 48 (.call 28 [(.t 47)]) [47],
  o1 49 (.call 26 [(.t 46), (.t 48)]) [46, 48],
  o1 9 (.mv (.t 49)) [49]]
@[reducible] def fDeslipFrames_r14 : List (DOper × List Nat) := [
  o1 50 (.mv (.t 9)) [],
  o1 51 (.len true (.t 50)) [],
  o1 52 (.mv (.k (.int .i64 0))) []]
@[reducible] def fDeslipFrames_r15 : List (DOper × List Nat) := [
  o1 53 (.bin false .lss (.t 52) (.t 51)) []]
@[reducible] def fDeslipFrames_k3 : KCode := (.keep [5, 37, 38, 39] (.exit 2))
@[reducible] def fDeslipFrames_r16 : List (DOper × List Nat) := [
  o1 54 (.mv (.t 52)) [],
  o1 55 (.idxS 3 (.t 50) (.t 52)) [],
  o1 56 (.load (some 3) (.t 55)) [55],
  o1 11 (.alloc 64 [(.int .i64 0), (.list 1 ⟨true, true, false⟩ []), (.int .i64 0)]) [],
  o1 10 (.mv (.t 54)) [54],
  (⟨⟨none, none, .store 3 (.t 11) (.t 56)⟩, 0, []⟩, [56])]
@[reducible] def fDeslipFrames_r17 : List (DOper × List Nat) := [
  o1 57 (.mv (.t 10)) [],
  o1 58 (.mv (.t 9)) [],
  o1 59 (.len true (.t 58)) [58],
  o1 60 (.bin false .sub (.t 59) (.k (.int .i64 1))) [59],
  o1 61 (.bin false .lss (.t 57) (.t 60)) [57, 60],
  o1 62 (.mv (.t 61)) [61],
  (⟨⟨(some 63), (some (62, true)), .fieldAddr 0 (.t 11)⟩, 0, []⟩, []),
  (⟨⟨(some 64), (some (62, true)), .load none (.t 63)⟩, 0, []⟩, [63]),
  (⟨⟨(some 65), (some (62, true)), .bin false .neq (.t 64) (.k (.int .i64 0))⟩, 0, []⟩, [64]),
  o1 66 (.pick (.t 62) (.t 65) (.k (.bool false))) [62, 65],
  o1 67 (.mv (.t 66)) [66],
  (⟨⟨(some 68), (some (67, false)), .mv (.t 10)⟩, 0, []⟩, [10]),
  (⟨⟨(some 69), (some (67, false)), .mv (.t 9)⟩, 0, []⟩, []),
  (⟨⟨(some 70), (some (67, false)), .len true (.t 69)⟩, 0, []⟩, [69]),
  (⟨⟨(some 71), (some (67, false)), .bin false .sub (.t 70) (.k (.int .i64 1))⟩, 0, []⟩, [70]),
  (⟨⟨(some 72), (some (67, false)), .bin false .eql (.t 68) (.t 71)⟩, 0, []⟩, [68, 71]),
  (⟨⟨(some 73), (some (67, false)), .mv (.t 72)⟩, 0, []⟩, [72]),
  (⟨⟨(some 74), (some (73, true)), .fieldAddr 1 (.t 11)⟩, 0, []⟩, []),
  (⟨⟨(some 75), (some (73, true)), .load none (.t 74)⟩, 0, []⟩, [74]),
  (⟨⟨(some 76), (some (73, true)), .toStr (.t 75)⟩, 0, []⟩, [75]),
  (⟨⟨(some 77), (some (73, true)), .mv (.t 8)⟩, 0, []⟩, []),
  (⟨⟨(some 78), (some (73, true)), .toStr (.t 77)⟩, 0, []⟩, [77]),
  (⟨⟨(some 79), (some (73, true)), .bin false .neq (.t 76) (.t 78)⟩, 0, []⟩, [76, 78]),
  (⟨⟨(some 80), (some (73, true)), .mv (.t 79)⟩, 0, []⟩, [79]),
  (⟨⟨(some 81), (some (80, false)), .fieldAddr 0 (.t 11)⟩, 0, []⟩, [11]),
  (⟨⟨(some 82), (some (80, false)), .load none (.t 81)⟩, 0, []⟩, [81]),
  (⟨⟨(some 83), (some (80, false)), .bin false .eql (.t 82) (.k (.int .i64 2))⟩, 0, []⟩, [82]),
  (⟨⟨(some 84), (some (73, true)), .pick (.t 80) (.k (.bool true)) (.t 83)⟩, 0, []⟩, [80, 83]),
  (⟨⟨(some 85), (some (67, false)), .pick (.t 73) (.t 84) (.k (.bool false))⟩, 0, []⟩, [73, 84]),
  o1 86 (.pick (.t 67) (.k (.bool true)) (.t 85)) [67, 85]]
@[reducible] def fDeslipFrames_r18 : List (DOper × List Nat) := [
  o1 4 (.mv (.k (.bool false))) []]
@[reducible] def fDeslipFrames_k4 : KCode := (.keep [] (.seq (.reg fDeslipFrames_r18) .ret))
@[reducible] def fDeslipFrames_r19 : List (DOper × List Nat) := [
  o1 87 (.bin false .add (.t 52) (.k (.int .i64 1))) [52],
  o1 52 (.mv (.t 87)) [87]]
/-- live: [5, 8, 9, 37, 38, 39, 50, 51, 52] -/
@[reducible] def fDeslipFrames_l5 : KCode := (.seq (.reg fDeslipFrames_r15) (.seq (.cond (.t 53) (.kill [53] .skip) fDeslipFrames_k3) (.kill [53] (.seq (.block 3 (.seq (.reg fDeslipFrames_r16) (.seq (.reg fDeslipFrames_r17) (.cond (.t 86) fDeslipFrames_k4 (.kill [86] .skip))))) (.keep [5, 8, 9, 37, 38, 39, 50, 51, 52] (.reg fDeslipFrames_r19))))))
@[reducible] def fDeslipFrames_r20 : List (DOper × List Nat) := [
  o1 88 (.bin false .add (.t 39) (.k (.int .i64 1))) [39],
  o1 39 (.mv (.t 88)) [88]]
/-- live: [5, 37, 38, 39] -/
@[reducible] def fDeslipFrames_l6 : KCode := (.seq (.reg fDeslipFrames_r9) (.seq (.cond (.t 40) (.kill [40] .skip) (.keep [] (.exit 0))) (.kill [40] (.seq (.block 1 (.seq (.reg fDeslipFrames_r10) (.seq (.seq (.reg fDeslipFrames_r11) (.cond (.t 45) fDeslipFrames_k2 (.kill [45] .skip))) (.kill [4, 43, 44, 45] (.seq (.reg fDeslipFrames_r13) (.seq (.reg fDeslipFrames_r14) (.block 2 (.loop fDeslipFrames_l5)))))))) (.keep [5, 37, 38, 39] (.reg fDeslipFrames_r20))))))
@[reducible] def fDeslipFrames_r21 : List (DOper × List Nat) := [
  o1 4 (.mv (.k (.bool true))) []]
/-- bosun/bosunlaw10.DeslipFrames -/
@[reducible] def fDeslipFrames : KCode := (.seq (.reg fDeslipFrames_r0) (.seq (.seq (.reg fDeslipFrames_r1) (.cond (.t 23) fDeslipFrames_k0 (.kill [23] .skip))) (.keep [0, 1] (.seq (.reg fDeslipFrames_r3) (.seq (.seq (.reg fDeslipFrames_r4) (.cond (.t 30) fDeslipFrames_k1 (.kill [30] .skip))) (.keep [0, 1, 5] (.seq (.reg fDeslipFrames_r6) (.seq (.reg fDeslipFrames_r7) (.seq (.seq (.reg fDeslipFrames_r8) (.block 0 (.loop fDeslipFrames_l6))) (.keep [] (.seq (.reg fDeslipFrames_r21) .ret)))))))))))
@[reducible] def fDeslipFrames_rs : List IRes := [.tmp 4]
theorem fDeslipFrames_low : lowFunc Try.prog 7 [] [] = some ⟨fDeslipFrames.bare, fDeslipFrames_rs, 89⟩ := by kernel_rfl

@[reducible] def fDeslipNil_r0 : List (DOper × List Nat) := [
  o1 2 (.mv (.k (.bool false))) [2]]
@[reducible] def fDeslipNil_r1 : List (DOper × List Nat) := [
  o1 12 (.call 23 []) [],
  o1 13 (.un .not (.t 12)) [12]]
@[reducible] def fDeslipNil_r2 : List (DOper × List Nat) := [
  o1 2 (.mv (.k (.bool false))) []]
@[reducible] def fDeslipNil_k0 : KCode := (.keep [] (.seq (.reg fDeslipNil_r2) .ret))
@[reducible] def fDeslipNil_r3 : List (DOper × List Nat) := [
  o1 3 (.mv (.k .nil)) []]
@[reducible] def fDeslipNil_r4 : List (DOper × List Nat) := [
  o1 15 (.mv (.t 3)) [3],
  o1 16 (.mv (.t 0)) [0],
  o1 17 (.call 29 [(.t 15), (.t 16)]) [15, 16],
  o1 14 (.mv (.t 17)) [17],
  o1 18 (.extract 0 (.t 14)) [],
  o1 19 (.extract 1 (.t 14)) [14],
  o1 4 (.mv (.t 18)) [4, 18],
  o1 5 (.mv (.t 19)) [19]]
@[reducible] def fDeslipNil_r5 : List (DOper × List Nat) := [
  o1 21 (.call 24 [(.k (.int .i64 4))]) [],
  o1 20 (.mv (.t 21)) [21],
  o1 22 (.extract 0 (.t 20)) [],
  o1 23 (.extract 1 (.t 20)) [20],
  o1 6 (.mv (.t 22)) [22],
  o1 7 (.mv (.t 23)) [7, 23]]
@[reducible] def fDeslipNil_r6 : List (DOper × List Nat) := [
  o1 24 (.mv (.t 6)) [],
  o1 25 (.call 29 [(.t 24), (.k (.int .u8 7))]) [24, 25]]
@[reducible] def fDeslipNil_r7 : List (DOper × List Nat) := [
  o1 27 (.mv (.t 6)) [],
  o1 28 (.call 29 [(.t 27), (.k (.int .u8 192))]) [27],
  o1 26 (.mv (.t 28)) [28],
  o1 29 (.extract 0 (.t 26)) [],
  o1 30 (.extract 1 (.t 26)) [26],
  o1 8 (.mv (.t 29)) [29],
  o1 9 (.mv (.t 30)) [9, 30]]
@[reducible] def fDeslipNil_r8 : List (DOper × List Nat) := [
  o1 31 (.mv (.t 6)) [],
  o1 32 (.call 29 [(.t 31), (.k (.int .u8 8))]) [31, 32]]
@[reducible] def fDeslipNil_r9 : List (DOper × List Nat) := [
  o1 34 (.mv (.t 6)) [6],
  o1 35 (.call 29 [(.t 34), (.k (.int .u8 192))]) [34],
  o1 33 (.mv (.t 35)) [35],
  o1 36 (.extract 0 (.t 33)) [],
  o1 37 (.extract 1 (.t 33)) [33],
  o1 10 (.mv (.t 36)) [36],
  o1 11 (.mv (.t 37)) [11, 37]]
@[reducible] def fDeslipNil_r10 : List (DOper × List Nat) := [
  o1 38 (.mv (.t 5)) [5],
  o1 39 (.bin false .eql (.t 38) (.k (.int .i64 1))) [38],
  o1 40 (.mv (.t 39)) [39],
  (⟨⟨(some 41), (some (40, true)), .mv (.t 8)⟩, 0, []⟩, [8]),
  (⟨⟨(some 42), (some (40, true)), .toStr (.t 41)⟩, 0, []⟩, [41]),
  (⟨⟨(some 43), (some (40, true)), .bin false .eql (.t 42) (.k (.str [7]))⟩, 0, []⟩, [42]),
  o1 44 (.pick (.t 40) (.t 43) (.k (.bool false))) [40, 43],
  o1 45 (.mv (.t 44)) [44],
  (⟨⟨(some 46), (some (45, true)), .mv (.t 10)⟩, 0, []⟩, [10]),
  (⟨⟨(some 47), (some (45, true)), .toStr (.t 46)⟩, 0, []⟩, [46]),
  (⟨⟨(some 48), (some (45, true)), .bin false .eql (.t 47) (.k (.str [8]))⟩, 0, []⟩, [47]),
  o1 49 (.pick (.t 45) (.t 48) (.k (.bool false))) [45, 48],
  o1 2 (.mv (.t 49)) [49]]
/-- bosun/bosunlaw10.DeslipNil -/
@[reducible] def fDeslipNil : KCode := (.seq (.reg fDeslipNil_r0) (.seq (.seq (.reg fDeslipNil_r1) (.cond (.t 13) fDeslipNil_k0 (.kill [13] .skip))) (.keep [0] (.seq (.reg fDeslipNil_r3) (.seq (.reg fDeslipNil_r4) (.seq (.reg fDeslipNil_r5) (.seq (.reg fDeslipNil_r6) (.seq (.reg fDeslipNil_r7) (.seq (.reg fDeslipNil_r8) (.seq (.reg fDeslipNil_r9) (.seq (.reg fDeslipNil_r10) .ret)))))))))))
@[reducible] def fDeslipNil_rs : List IRes := [.tmp 2]
theorem fDeslipNil_low : lowFunc Try.prog 8 [] [] = some ⟨fDeslipNil.bare, fDeslipNil_rs, 50⟩ := by kernel_rfl

end Go.Proofs.Ytlffcidcopibmaa
