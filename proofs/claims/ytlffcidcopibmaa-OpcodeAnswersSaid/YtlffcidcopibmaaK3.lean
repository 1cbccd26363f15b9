/-
  Codes of the functions of chapter 16.
-/
import Derived.Test.YtlffcidcopibmaaFwC
import Derived.Test.YtlffcidcopibmaaRows
set_option linter.unusedSimpArgs false
set_option linter.unusedVariables false
set_option linter.unusedSectionVars false
namespace Go.Proofs.Ytlffcidcopibmaa
open Go.Fw
@[reducible] def fPar_r0 : List (DOper × List Nat) := [
  o1 2 (.alloc 69 [(.int .u8 0), (.int .u8 0), (.int .u32 0), (.list 1 ⟨true, true, false⟩ [])]) [],
  o1 3 (.mv (.k (.int .i64 0))) [3]]
@[reducible] def fPar_r1 : List (DOper × List Nat) := [
  o1 10 (.mv (.t 0)) [],
  o1 11 (.len true (.t 10)) [10],
  o1 12 (.bin false .eql (.t 11) (.k (.int .i64 0))) [11]]
@[reducible] def fPar_r2 : List (DOper × List Nat) := [
  o1 13 (.build [(.int .u8 0), (.int .u8 0), (.int .u32 0), (.list 1 ⟨true, true, false⟩ [])] []) [],
  (⟨⟨none, none, .store 4 (.t 2) (.t 13)⟩, 0, []⟩, [13]),
  o1 3 (.mv (.k (.int .i64 18))) []]
@[reducible] def fPar_k0 : KCode := (.keep [2] (.seq (.reg fPar_r2) .ret))
@[reducible] def fPar_r3 : List (DOper × List Nat) := [
  o1 14 (.mv (.t 0)) [],
  o1 15 (.idxS 1 (.t 14) (.k (.int .i64 0))) [14],
  o1 16 (.load none (.t 15)) [15],
  o1 17 (.build [(.int .u8 0), (.int .u8 0), (.int .u32 0), (.list 1 ⟨true, true, false⟩ [])] [(0, 1, (.t 16))]) [16],
  o1 4 (.alloc 69 [(.int .u8 0), (.int .u8 0), (.int .u32 0), (.list 1 ⟨true, true, false⟩ [])]) [],
  (⟨⟨none, none, .store 4 (.t 4) (.t 17)⟩, 0, []⟩, [17])]
@[reducible] def fPar_r4 : List (DOper × List Nat) := [
  o1 19 (.callP 41 []) [],
  o2 20 1 (.fieldAddr 0 (.t 4)) [],
  o2 21 2 (.load none (.t 20)) [20],
  o2 22 3 (.look true (.agg [(.int .i64 0), (.int .i64 0)]) (.t 19) (.t 21)) [19, 21],
  o2 18 4 (.mv (.t 22)) [22],
  o2 23 5 (.extract 0 (.t 18)) [],
  o2 24 6 (.extract 1 (.t 18)) [18],
  (⟨⟨(some 5), none, .alloc 88 [(.int .i64 0), (.int .i64 0)]⟩, 7, [2]⟩, []),
  (⟨⟨none, none, .store 2 (.t 5) (.t 23)⟩, 8, []⟩, [23]),
  o2 6 9 (.mv (.t 24)) [24]]
@[reducible] def fPar_r5 : List (DOper × List Nat) := [
  o1 25 (.fieldAddr 0 (.t 5)) [],
  o1 26 (.load none (.t 25)) [25],
  o1 27 (.bin false .add (.k (.int .i64 1)) (.t 26)) [26],
  o1 28 (.fieldAddr 1 (.t 5)) [],
  o1 29 (.load none (.t 28)) [28],
  o1 30 (.bin false .add (.t 27) (.t 29)) [27, 29],
  o1 7 (.mv (.t 30)) [30]]
@[reducible] def fPar_r6 : List (DOper × List Nat) := [
  o1 32 (.fieldAddr 0 (.t 4)) [],
  o1 33 (.load none (.t 32)) [32],
  o1 34 (.bin false .eql (.t 33) (.k (.int .u8 8))) [33],
  o1 35 (.mv (.t 34)) [34],
  (⟨⟨(some 36), (some (35, true)), .mv (.t 0)⟩, 0, []⟩, []),
  (⟨⟨(some 37), (some (35, true)), .len true (.t 36)⟩, 0, []⟩, [36]),
  (⟨⟨(some 38), (some (35, true)), .bin false .gtr (.t 37) (.k (.int .i64 65))⟩, 0, []⟩, [37]),
  o1 39 (.pick (.t 35) (.t 38) (.k (.bool false))) [35, 38],
  o1 31 (.mv (.t 39)) [39]]
@[reducible] def fPar_r7 : List (DOper × List Nat) := [
  o1 40 (.build [(.int .u8 0), (.int .u8 0), (.int .u32 0), (.list 1 ⟨true, true, false⟩ [])] []) [],
  (⟨⟨none, none, .store 4 (.t 2) (.t 40)⟩, 0, []⟩, [40]),
  o1 3 (.mv (.k (.int .i64 17))) []]
@[reducible] def fPar_r8 : List (DOper × List Nat) := [
  o1 42 (.fieldAddr 0 (.t 4)) [],
  o1 43 (.load none (.t 42)) [42],
  o1 44 (.bin false .eql (.t 43) (.k (.int .u8 8))) [43],
  o1 45 (.mv (.t 44)) [44],
  (⟨⟨(some 46), (some (45, true)), .mv (.t 0)⟩, 0, []⟩, []),
  (⟨⟨(some 47), (some (45, true)), .len true (.t 46)⟩, 0, []⟩, [46]),
  (⟨⟨(some 48), (some (45, true)), .bin false .gtr (.t 47) (.k (.int .i64 1))⟩, 0, []⟩, [47]),
  o1 49 (.pick (.t 45) (.t 48) (.k (.bool false))) [45, 48],
  o1 41 (.mv (.t 49)) [49]]
@[reducible] def fPar_r9 : List (DOper × List Nat) := [
  o1 50 (.mv (.t 0)) [0],
  o1 51 (.slS 1 (.t 50) (some (.k (.int .i64 1))) none none) [50],
  o1 52 (.call 35 [(.t 51)]) [51],
  o1 53 (.fieldAddr 3 (.t 4)) [],
  (⟨⟨none, none, .store 1 (.t 53) (.t 52)⟩, 0, []⟩, [52, 53])]
@[reducible] def fPar_r10 : List (DOper × List Nat) := [
  o1 54 (.load (some 4) (.t 4)) [4],
  (⟨⟨none, none, .store 4 (.t 2) (.t 54)⟩, 0, []⟩, [54]),
  o1 3 (.mv (.k (.int .i64 0))) []]
@[reducible] def fPar_r11 : List (DOper × List Nat) := [
  o1 56 (.fieldAddr 0 (.t 4)) [],
  o1 57 (.load none (.t 56)) [56],
  o1 58 (.bin false .neq (.t 57) (.k (.int .u8 8))) [57],
  o1 59 (.mv (.t 58)) [58],
  (⟨⟨(some 60), (some (59, true)), .mv (.t 6)⟩, 0, []⟩, [6]),
  (⟨⟨(some 61), (some (59, true)), .un .not (.t 60)⟩, 0, []⟩, [60]),
  o1 62 (.pick (.t 59) (.t 61) (.k (.bool false))) [59, 61],
  o1 55 (.mv (.t 62)) [62]]
@[reducible] def fPar_r12 : List (DOper × List Nat) := [
  o1 63 (.build [(.int .u8 0), (.int .u8 0), (.int .u32 0), (.list 1 ⟨true, true, false⟩ [])] []) [],
  (⟨⟨none, none, .store 4 (.t 2) (.t 63)⟩, 0, []⟩, [63]),
  o1 3 (.mv (.k (.int .i64 19))) []]
@[reducible] def fPar_r13 : List (DOper × List Nat) := [
  o1 65 (.fieldAddr 0 (.t 4)) [],
  o1 66 (.load none (.t 65)) [65],
  o1 67 (.bin false .eql (.t 66) (.k (.int .u8 8))) [66],
  o1 68 (.mv (.t 67)) [67],
  (⟨⟨(some 69), (some (68, false)), .mv (.t 0)⟩, 0, []⟩, []),
  (⟨⟨(some 70), (some (68, false)), .len true (.t 69)⟩, 0, []⟩, [69]),
  (⟨⟨(some 71), (some (68, false)), .mv (.t 7)⟩, 0, []⟩, []),
  (⟨⟨(some 72), (some (68, false)), .bin false .lss (.t 70) (.t 71)⟩, 0, []⟩, [70, 71]),
  o1 73 (.pick (.t 68) (.k (.bool true)) (.t 72)) [68, 72],
  o1 64 (.mv (.t 73)) [73]]
@[reducible] def fPar_r14 : List (DOper × List Nat) := [
  o1 74 (.build [(.int .u8 0), (.int .u8 0), (.int .u32 0), (.list 1 ⟨true, true, false⟩ [])] []) [],
  (⟨⟨none, none, .store 4 (.t 2) (.t 74)⟩, 0, []⟩, [74]),
  o1 3 (.mv (.k (.int .i64 18))) []]
@[reducible] def fPar_r15 : List (DOper × List Nat) := [
  o1 76 (.mv (.t 0)) [],
  o1 77 (.len true (.t 76)) [76],
  o1 78 (.mv (.t 7)) [7],
  o1 79 (.bin false .gtr (.t 77) (.t 78)) [77, 78],
  o1 75 (.mv (.t 79)) [79]]
@[reducible] def fPar_r16 : List (DOper × List Nat) := [
  o1 80 (.build [(.int .u8 0), (.int .u8 0), (.int .u32 0), (.list 1 ⟨true, true, false⟩ [])] []) [],
  (⟨⟨none, none, .store 4 (.t 2) (.t 80)⟩, 0, []⟩, [80]),
  o1 3 (.mv (.k (.int .i64 17))) []]
@[reducible] def fPar_k1 : KCode := (.keep [2] (.seq (.reg fPar_r16) .ret))
@[reducible] def fPar_k2 : KCode := (.keep [2] (.seq (.reg fPar_r14) .ret))
@[reducible] def fPar_k3 : KCode := (.kill [64] (.seq (.reg fPar_r15) (.cond (.t 75) fPar_k1 (.kill [75] .skip))))
@[reducible] def fPar_k4 : KCode := (.keep [2] (.seq (.reg fPar_r12) .ret))
@[reducible] def fPar_k5 : KCode := (.kill [55] (.seq (.reg fPar_r13) (.cond (.t 64) fPar_k2 fPar_k3)))
@[reducible] def fPar_k6 : KCode := (.keep [0, 2, 4] (.seq (.reg fPar_r9) (.seq (.reg fPar_r10) .ret)))
@[reducible] def fPar_k7 : KCode := (.kill [41] (.seq (.reg fPar_r11) (.cond (.t 55) fPar_k4 fPar_k5)))
@[reducible] def fPar_k8 : KCode := (.keep [2] (.seq (.reg fPar_r7) .ret))
@[reducible] def fPar_k9 : KCode := (.kill [31] (.seq (.reg fPar_r8) (.cond (.t 41) fPar_k6 fPar_k7)))
@[reducible] def fPar_r17 : List (DOper × List Nat) := [
  o1 81 (.fieldAddr 0 (.t 5)) [],
  o1 82 (.load none (.t 81)) [81],
  o1 83 (.bin false .gtr (.t 82) (.k (.int .i64 0))) [82]]
@[reducible] def fPar_r18 : List (DOper × List Nat) := [
  o1 84 (.mv (.t 0)) [],
  o1 85 (.idxS 1 (.t 84) (.k (.int .i64 1))) [84],
  o1 86 (.load none (.t 85)) [85],
  o1 87 (.fieldAddr 1 (.t 4)) [],
  (⟨⟨none, none, .store 1 (.t 87) (.t 86)⟩, 0, []⟩, [86, 87])]
@[reducible] def fPar_k10 : KCode := (.kill [83] (.reg fPar_r18))
@[reducible] def fPar_r19 : List (DOper × List Nat) := [
  o1 88 (.mv (.t 0)) [0],
  o1 89 (.fieldAddr 0 (.t 5)) [5],
  o1 90 (.load none (.t 89)) [89],
  o1 91 (.bin false .add (.k (.int .i64 1)) (.t 90)) [90],
  o1 92 (.slS 1 (.t 88) (some (.t 91)) none none) [88, 91],
  o1 93 (.len true (.t 92)) [],
  o1 94 (.mv (.k (.int .i64 0))) []]
@[reducible] def fPar_r20 : List (DOper × List Nat) := [
  o1 95 (.bin false .lss (.t 94) (.t 93)) []]
@[reducible] def fPar_k11 : KCode := (.keep [2, 4] (.exit 1))
@[reducible] def fPar_r21 : List (DOper × List Nat) := [
  o1 96 (.mv (.t 94)) [],
  o1 97 (.idxS 1 (.t 92) (.t 94)) [],
  o1 98 (.load none (.t 97)) [97],
  o1 8 (.mv (.t 96)) [96],
  o1 9 (.mv (.t 98)) [98]]
@[reducible] def fPar_r22 : List (DOper × List Nat) := [
  o1 99 (.fieldAddr 2 (.t 4)) [],
  o2 100 1 (.load none (.t 99)) [99],
  o2 101 2 (.mv (.t 9)) [9],
  o2 102 3 (.convI .u32 (.t 101)) [101],
  o2 103 4 (.mv (.t 8)) [8],
  o2 104 5 (.bin false .mul (.k (.int .i64 8)) (.t 103)) [103],
  o2 105 6 (.bin false .shl (.t 102) (.t 104)) [102, 104],
  o2 106 7 (.bin false .or (.t 100) (.t 105)) [100, 105],
  o2 107 8 (.fieldAddr 2 (.t 4)) [],
  (⟨⟨none, none, .store 1 (.t 107) (.t 106)⟩, 9, []⟩, [106, 107])]
@[reducible] def fPar_r23 : List (DOper × List Nat) := [
  o1 108 (.bin false .add (.t 94) (.k (.int .i64 1))) [94],
  o1 94 (.mv (.t 108)) [108]]
/-- live: [2, 4, 92, 93, 94] -/
@[reducible] def fPar_l12 : KCode := (.seq (.reg fPar_r20) (.seq (.cond (.t 95) (.kill [95] .skip) fPar_k11) (.kill [95] (.seq (.block 2 (.seq (.reg fPar_r21) (.draw fPar_r22))) (.keep [2, 4, 92, 93, 94] (.reg fPar_r23))))))
@[reducible] def fPar_r24 : List (DOper × List Nat) := [
  o1 109 (.load (some 4) (.t 4)) [4],
  (⟨⟨none, none, .store 4 (.t 2) (.t 109)⟩, 0, []⟩, [109]),
  o1 3 (.mv (.k (.int .i64 0))) []]
/-- bosun/opcode.Parse -/
@[reducible] def fPar : KCode := (.seq (.reg fPar_r0) (.seq (.seq (.reg fPar_r1) (.cond (.t 12) fPar_k0 (.kill [12] .skip))) (.keep [0, 2] (.seq (.reg fPar_r3) (.seq (.draw fPar_r4) (.seq (.reg fPar_r5) (.seq (.block 0 (.seq (.reg fPar_r6) (.cond (.t 31) fPar_k8 fPar_k9))) (.keep [0, 2, 4, 5] (.seq (.seq (.reg fPar_r17) (.cond (.t 83) fPar_k10 (.kill [83] .skip))) (.keep [0, 2, 4, 5] (.seq (.seq (.reg fPar_r19) (.block 1 (.loop fPar_l12))) (.keep [2, 4] (.seq (.reg fPar_r24) .ret)))))))))))))
@[reducible] def fPar_rs : List IRes := [.cell 2 (some 4), .tmp 3]
theorem fPar_low : lowFunc Try.prog 30 [(4, 0)] [] = some ⟨fPar.bare, fPar_rs, 110⟩ := by kernel_rfl

@[reducible] def fRPar_r0 : List (DOper × List Nat) := [
  o1 2 (.alloc 72 [(.int .u8 0), (.int .u8 0), (.int .u32 0), (.list 1 ⟨true, true, false⟩ [])]) [],
  o1 3 (.mv (.k (.int .i64 0))) [3]]
@[reducible] def fRPar_r1 : List (DOper × List Nat) := [
  o1 7 (.mv (.t 0)) [],
  o1 8 (.len true (.t 7)) [7],
  o1 9 (.bin false .eql (.t 8) (.k (.int .i64 0))) [8]]
@[reducible] def fRPar_r2 : List (DOper × List Nat) := [
  o1 10 (.build [(.int .u8 0), (.int .u8 0), (.int .u32 0), (.list 1 ⟨true, true, false⟩ [])] []) [],
  (⟨⟨none, none, .store 4 (.t 2) (.t 10)⟩, 0, []⟩, [10]),
  o1 3 (.mv (.k (.int .i64 18))) []]
@[reducible] def fRPar_k0 : KCode := (.keep [2] (.seq (.reg fRPar_r2) .ret))
@[reducible] def fRPar_r3 : List (DOper × List Nat) := [
  o1 11 (.mv (.t 0)) [],
  o1 12 (.idxS 1 (.t 11) (.k (.int .i64 0))) [11],
  o1 13 (.load none (.t 12)) [12],
  o1 14 (.build [(.int .u8 0), (.int .u8 0), (.int .u32 0), (.list 1 ⟨true, true, false⟩ [])] [(0, 1, (.t 13))]) [13],
  o1 4 (.alloc 72 [(.int .u8 0), (.int .u8 0), (.int .u32 0), (.list 1 ⟨true, true, false⟩ [])]) [],
  (⟨⟨none, none, .store 4 (.t 4) (.t 14)⟩, 0, []⟩, [14])]
@[reducible] def fRPar_r4 : List (DOper × List Nat) := [
  o1 5 (.mv (.k (.int .i64 1))) []]
@[reducible] def fRPar_r5 : List (DOper × List Nat) := [
  o1 6 (.mv (.k (.int .i64 1))) []]
@[reducible] def fRPar_r6 : List (DOper × List Nat) := [
  o1 15 (.mv (.t 0)) [],
  o1 16 (.idxS 1 (.t 15) (.k (.int .i64 0))) [15],
  o1 17 (.load none (.t 16)) [16]]
@[reducible] def fRPar_r7 : List (DOper × List Nat) := [
  o1 20 (.bin false .eql (.t 17) (.k (.int .u8 0))) [],
  o1 19 (.mv (.t 20)) [20]]
@[reducible] def fRPar_r8 : List (DOper × List Nat) := [
  o1 21 (.bin false .eql (.t 17) (.k (.int .u8 3))) [],
  o1 19 (.mv (.t 21)) [21]]
@[reducible] def fRPar_r9 : List (DOper × List Nat) := [
  o1 22 (.bin false .eql (.t 17) (.k (.int .u8 4))) [],
  o1 19 (.mv (.t 22)) [22]]
@[reducible] def fRPar_r10 : List (DOper × List Nat) := [
  o1 23 (.bin false .eql (.t 17) (.k (.int .u8 7))) [],
  o1 19 (.mv (.t 23)) [23]]
@[reducible] def fRPar_r11 : List (DOper × List Nat) := [
  o1 24 (.bin false .eql (.t 17) (.k (.int .u8 12))) [],
  o1 19 (.mv (.t 24)) [24]]
@[reducible] def fRPar_k1 : KCode := (.kill [19] (.reg fRPar_r11))
@[reducible] def fRPar_k2 : KCode := (.kill [19] (.seq (.reg fRPar_r10) (.cond (.t 19) .skip fRPar_k1)))
@[reducible] def fRPar_k3 : KCode := (.kill [19] (.seq (.reg fRPar_r9) (.cond (.t 19) .skip fRPar_k2)))
@[reducible] def fRPar_k4 : KCode := (.kill [19] (.seq (.reg fRPar_r8) (.cond (.t 19) .skip fRPar_k3)))
@[reducible] def fRPar_r12 : List (DOper × List Nat) := [
  o1 26 (.bin false .eql (.t 17) (.k (.int .u8 1))) [],
  o1 25 (.mv (.t 26)) [26]]
@[reducible] def fRPar_r13 : List (DOper × List Nat) := [
  o1 5 (.mv (.k (.int .i64 6))) []]
@[reducible] def fRPar_r14 : List (DOper × List Nat) := [
  o1 6 (.mv (.k (.int .i64 6))) []]
@[reducible] def fRPar_r15 : List (DOper × List Nat) := [
  o1 28 (.bin false .eql (.t 17) (.k (.int .u8 2))) [],
  o1 27 (.mv (.t 28)) [28]]
@[reducible] def fRPar_r16 : List (DOper × List Nat) := [
  o1 5 (.mv (.k (.int .i64 3))) []]
@[reducible] def fRPar_r17 : List (DOper × List Nat) := [
  o1 6 (.mv (.k (.int .i64 3))) []]
@[reducible] def fRPar_r18 : List (DOper × List Nat) := [
  o1 30 (.bin false .eql (.t 17) (.k (.int .u8 6))) [],
  o1 29 (.mv (.t 30)) [30]]
@[reducible] def fRPar_r19 : List (DOper × List Nat) := [
  o1 31 (.bin false .eql (.t 17) (.k (.int .u8 9))) [],
  o1 29 (.mv (.t 31)) [31]]
@[reducible] def fRPar_k5 : KCode := (.kill [29] (.reg fRPar_r19))
@[reducible] def fRPar_r20 : List (DOper × List Nat) := [
  o1 5 (.mv (.k (.int .i64 2))) []]
@[reducible] def fRPar_r21 : List (DOper × List Nat) := [
  o1 6 (.mv (.k (.int .i64 2))) []]
@[reducible] def fRPar_r22 : List (DOper × List Nat) := [
  o1 33 (.bin false .eql (.t 17) (.k (.int .u8 8))) [17],
  o1 32 (.mv (.t 33)) [33]]
@[reducible] def fRPar_r23 : List (DOper × List Nat) := [
  o1 5 (.mv (.k (.int .i64 2))) []]
@[reducible] def fRPar_r24 : List (DOper × List Nat) := [
  o1 6 (.mv (.k (.int .i64 65))) []]
@[reducible] def fRPar_r25 : List (DOper × List Nat) := [
  o1 18 (.build [(.int .u8 0), (.int .u8 0), (.int .u32 0), (.list 1 ⟨true, true, false⟩ [])] []) [],
  (⟨⟨none, none, .store 4 (.t 2) (.t 18)⟩, 0, []⟩, [18]),
  o1 3 (.mv (.k (.int .i64 19))) []]
@[reducible] def fRPar_k6 : KCode := (.kill [32] (.seq (.reg fRPar_r23) (.reg fRPar_r24)))
@[reducible] def fRPar_k7 : KCode := (.keep [2] (.seq (.reg fRPar_r25) .ret))
@[reducible] def fRPar_k8 : KCode := (.kill [17, 29] (.seq (.reg fRPar_r20) (.reg fRPar_r21)))
@[reducible] def fRPar_k9 : KCode := (.kill [29] (.seq (.reg fRPar_r22) (.cond (.t 32) fRPar_k6 fRPar_k7)))
@[reducible] def fRPar_k10 : KCode := (.kill [17, 27] (.seq (.reg fRPar_r16) (.reg fRPar_r17)))
@[reducible] def fRPar_k11 : KCode := (.kill [27] (.seq (.seq (.reg fRPar_r18) (.cond (.t 29) .skip fRPar_k5)) (.kill [30, 31] (.cond (.t 29) fRPar_k8 fRPar_k9))))
@[reducible] def fRPar_k12 : KCode := (.kill [17, 25] (.seq (.reg fRPar_r13) (.reg fRPar_r14)))
@[reducible] def fRPar_k13 : KCode := (.kill [25] (.seq (.reg fRPar_r15) (.cond (.t 27) fRPar_k10 fRPar_k11)))
@[reducible] def fRPar_k14 : KCode := (.kill [5, 6, 19] (.seq (.reg fRPar_r12) (.cond (.t 25) fRPar_k12 fRPar_k13)))
@[reducible] def fRPar_r26 : List (DOper × List Nat) := [
  o1 34 (.mv (.t 0)) [],
  o1 35 (.len true (.t 34)) [34],
  o1 36 (.mv (.t 5)) [5],
  o1 37 (.bin false .lss (.t 35) (.t 36)) [35, 36]]
@[reducible] def fRPar_r27 : List (DOper × List Nat) := [
  o1 38 (.build [(.int .u8 0), (.int .u8 0), (.int .u32 0), (.list 1 ⟨true, true, false⟩ [])] []) [],
  (⟨⟨none, none, .store 4 (.t 2) (.t 38)⟩, 0, []⟩, [38]),
  o1 3 (.mv (.k (.int .i64 18))) []]
@[reducible] def fRPar_k15 : KCode := (.keep [2] (.seq (.reg fRPar_r27) .ret))
@[reducible] def fRPar_r28 : List (DOper × List Nat) := [
  o1 39 (.mv (.t 0)) [],
  o1 40 (.len true (.t 39)) [39],
  o1 41 (.mv (.t 6)) [6],
  o1 42 (.bin false .gtr (.t 40) (.t 41)) [40, 41]]
@[reducible] def fRPar_r29 : List (DOper × List Nat) := [
  o1 43 (.build [(.int .u8 0), (.int .u8 0), (.int .u32 0), (.list 1 ⟨true, true, false⟩ [])] []) [],
  (⟨⟨none, none, .store 4 (.t 2) (.t 43)⟩, 0, []⟩, [43]),
  o1 3 (.mv (.k (.int .i64 17))) []]
@[reducible] def fRPar_k16 : KCode := (.keep [2] (.seq (.reg fRPar_r29) .ret))
@[reducible] def fRPar_r30 : List (DOper × List Nat) := [
  o1 44 (.mv (.t 0)) [],
  o1 45 (.idxS 1 (.t 44) (.k (.int .i64 0))) [44],
  o1 46 (.load none (.t 45)) [45]]
@[reducible] def fRPar_r31 : List (DOper × List Nat) := [
  o1 48 (.bin false .eql (.t 46) (.k (.int .u8 1))) [],
  o1 47 (.mv (.t 48)) [48]]
@[reducible] def fRPar_r32 : List (DOper × List Nat) := [
  o1 49 (.mv (.t 0)) [],
  o1 50 (.idxS 1 (.t 49) (.k (.int .i64 1))) [49],
  o1 51 (.load none (.t 50)) [50],
  o1 52 (.fieldAddr 1 (.t 4)) [],
  (⟨⟨none, none, .store 1 (.t 52) (.t 51)⟩, 0, []⟩, [51, 52])]
@[reducible] def fRPar_r33 : List (DOper × List Nat) := [
  o1 53 (.mv (.t 0)) [],
  o2 54 1 (.idxS 1 (.t 53) (.k (.int .i64 2))) [53],
  o2 55 2 (.load none (.t 54)) [54],
  o2 56 3 (.convI .u32 (.t 55)) [55],
  o2 57 4 (.mv (.t 0)) [],
  o2 58 5 (.idxS 1 (.t 57) (.k (.int .i64 3))) [57],
  o2 59 6 (.load none (.t 58)) [58],
  o2 60 7 (.convI .u32 (.t 59)) [59],
  o2 61 8 (.bin false .mul (.k (.int .u32 256)) (.t 60)) [60],
  o2 62 9 (.bin false .add (.t 56) (.t 61)) [56, 61],
  o2 63 10 (.mv (.t 0)) [],
  o2 64 11 (.idxS 1 (.t 63) (.k (.int .i64 4))) [63],
  o2 65 12 (.load none (.t 64)) [64],
  o2 66 13 (.convI .u32 (.t 65)) [65],
  o2 67 14 (.bin false .mul (.k (.int .u32 65536)) (.t 66)) [66],
  o2 68 15 (.bin false .add (.t 62) (.t 67)) [62, 67],
  o2 69 16 (.mv (.t 0)) [0],
  o2 70 17 (.idxS 1 (.t 69) (.k (.int .i64 5))) [69],
  o2 71 18 (.load none (.t 70)) [70],
  o2 72 19 (.convI .u32 (.t 71)) [71],
  o2 73 20 (.bin false .mul (.k (.int .u32 16777216)) (.t 72)) [72],
  o2 74 21 (.bin false .add (.t 68) (.t 73)) [68, 73],
  o2 75 22 (.fieldAddr 2 (.t 4)) [],
  (⟨⟨none, none, .store 1 (.t 75) (.t 74)⟩, 23, []⟩, [74, 75])]
@[reducible] def fRPar_r34 : List (DOper × List Nat) := [
  o1 77 (.bin false .eql (.t 46) (.k (.int .u8 2))) [],
  o1 76 (.mv (.t 77)) [77]]
@[reducible] def fRPar_r35 : List (DOper × List Nat) := [
  o1 78 (.mv (.t 0)) [],
  o2 79 1 (.idxS 1 (.t 78) (.k (.int .i64 1))) [78],
  o2 80 2 (.load none (.t 79)) [79],
  o2 81 3 (.convI .u32 (.t 80)) [80],
  o2 82 4 (.mv (.t 0)) [0],
  o2 83 5 (.idxS 1 (.t 82) (.k (.int .i64 2))) [82],
  o2 84 6 (.load none (.t 83)) [83],
  o2 85 7 (.convI .u32 (.t 84)) [84],
  o2 86 8 (.bin false .mul (.k (.int .u32 256)) (.t 85)) [85],
  o2 87 9 (.bin false .add (.t 81) (.t 86)) [81, 86],
  o2 88 10 (.fieldAddr 2 (.t 4)) [],
  (⟨⟨none, none, .store 1 (.t 88) (.t 87)⟩, 11, []⟩, [87, 88])]
@[reducible] def fRPar_r36 : List (DOper × List Nat) := [
  o1 90 (.bin false .eql (.t 46) (.k (.int .u8 6))) [],
  o1 89 (.mv (.t 90)) [90]]
@[reducible] def fRPar_r37 : List (DOper × List Nat) := [
  o1 91 (.bin false .eql (.t 46) (.k (.int .u8 9))) [],
  o1 89 (.mv (.t 91)) [91]]
@[reducible] def fRPar_k17 : KCode := (.kill [89] (.reg fRPar_r37))
@[reducible] def fRPar_r38 : List (DOper × List Nat) := [
  o1 92 (.mv (.t 0)) [0],
  o1 93 (.idxS 1 (.t 92) (.k (.int .i64 1))) [92],
  o1 94 (.load none (.t 93)) [93],
  o1 95 (.fieldAddr 1 (.t 4)) [],
  (⟨⟨none, none, .store 1 (.t 95) (.t 94)⟩, 0, []⟩, [94, 95])]
@[reducible] def fRPar_r39 : List (DOper × List Nat) := [
  o1 97 (.bin false .eql (.t 46) (.k (.int .u8 8))) [46],
  o1 96 (.mv (.t 97)) [97]]
@[reducible] def fRPar_r40 : List (DOper × List Nat) := [
  o1 98 (.buildF 5 1 [] []) [],
  o1 99 (.mv (.t 0)) [0],
  o1 100 (.slS 1 (.t 99) (some (.k (.int .i64 1))) none none) [99],
  o1 101 (.appF 5 1 1 (.t 98) (.t 100)) [98, 100],
  o1 102 (.fieldAddr 3 (.t 4)) [],
  (⟨⟨none, none, .store 1 (.t 102) (.t 101)⟩, 0, []⟩, [101, 102])]
@[reducible] def fRPar_k18 : KCode := (.kill [96] (.reg fRPar_r40))
@[reducible] def fRPar_k19 : KCode := (.kill [46, 89] (.reg fRPar_r38))
@[reducible] def fRPar_k20 : KCode := (.kill [89] (.seq (.reg fRPar_r39) (.cond (.t 96) fRPar_k18 (.kill [0, 96] .skip))))
@[reducible] def fRPar_k21 : KCode := (.kill [46, 76] (.draw fRPar_r35))
@[reducible] def fRPar_k22 : KCode := (.kill [76] (.seq (.seq (.reg fRPar_r36) (.cond (.t 89) .skip fRPar_k17)) (.kill [90, 91] (.cond (.t 89) fRPar_k19 fRPar_k20))))
@[reducible] def fRPar_k23 : KCode := (.kill [46, 47] (.seq (.reg fRPar_r32) (.draw fRPar_r33)))
@[reducible] def fRPar_k24 : KCode := (.kill [47] (.seq (.reg fRPar_r34) (.cond (.t 76) fRPar_k21 fRPar_k22)))
@[reducible] def fRPar_r41 : List (DOper × List Nat) := [
  o1 103 (.load (some 4) (.t 4)) [4],
  (⟨⟨none, none, .store 4 (.t 2) (.t 103)⟩, 0, []⟩, [103]),
  o1 3 (.mv (.k (.int .i64 0))) []]
/-- bosun/bosunref16.Parse -/
@[reducible] def fRPar : KCode := (.seq (.reg fRPar_r0) (.seq (.seq (.reg fRPar_r1) (.cond (.t 9) fRPar_k0 (.kill [9] .skip))) (.keep [0, 2] (.seq (.reg fRPar_r3) (.seq (.reg fRPar_r4) (.seq (.reg fRPar_r5) (.seq (.seq (.reg fRPar_r6) (.block 0 (.seq (.seq (.reg fRPar_r7) (.cond (.t 19) .skip fRPar_k4)) (.kill [20, 21, 22, 23, 24] (.cond (.t 19) (.kill [17, 19] .skip) fRPar_k14))))) (.keep [0, 2, 4, 5, 6] (.seq (.seq (.reg fRPar_r26) (.cond (.t 37) fRPar_k15 (.kill [37] .skip))) (.keep [0, 2, 4, 6] (.seq (.seq (.reg fRPar_r28) (.cond (.t 42) fRPar_k16 (.kill [42] .skip))) (.keep [0, 2, 4] (.seq (.seq (.reg fRPar_r30) (.block 1 (.seq (.reg fRPar_r31) (.cond (.t 47) fRPar_k23 fRPar_k24)))) (.keep [2, 4] (.seq (.reg fRPar_r41) .ret)))))))))))))))
@[reducible] def fRPar_rs : List IRes := [.cell 2 (some 4), .tmp 3]
theorem fRPar_low : lowFunc Try.prog 31 [(40, 3)] [] = some ⟨fRPar.bare, fRPar_rs, 104⟩ := by kernel_rfl

@[reducible] def fREnc_r0 : List (DOper × List Nat) := [
  o1 1 (.box 69 (.t 0)) [0],
  o1 2 (.mv (.k (.list 1 ⟨true, true, false⟩ []))) [2],
  o1 3 (.mv (.k (.int .i64 0))) [3]]
@[reducible] def fREnc_r1 : List (DOper × List Nat) := [
  o1 9 (.fieldAddr 0 (.t 1)) [],
  o1 10 (.load none (.t 9)) [9],
  o1 11 (.buildO 5 1 [(.int .u8 0)] [(0, 1, (.t 10))]) [10],
  o1 4 (.mv (.t 11)) [11]]
@[reducible] def fREnc_r2 : List (DOper × List Nat) := [
  o1 12 (.callP 41 []) [],
  o2 13 1 (.fieldAddr 0 (.t 1)) [],
  o2 14 2 (.load none (.t 13)) [13],
  o2 15 3 (.look false (.agg [(.int .i64 0), (.int .i64 0)]) (.t 12) (.t 14)) [12, 14],
  (⟨⟨(some 5), none, .alloc 88 [(.int .i64 0), (.int .i64 0)]⟩, 4, [2]⟩, []),
  (⟨⟨none, none, .store 2 (.t 5) (.t 15)⟩, 5, []⟩, [15])]
@[reducible] def fREnc_r3 : List (DOper × List Nat) := [
  o1 16 (.fieldAddr 0 (.t 5)) [],
  o1 17 (.load none (.t 16)) [16],
  o1 18 (.bin false .gtr (.t 17) (.k (.int .i64 0))) [17]]
@[reducible] def fREnc_r4 : List (DOper × List Nat) := [
  o1 19 (.mv (.t 4)) [4],
  o1 20 (.fieldAddr 1 (.t 1)) [],
  o1 21 (.load none (.t 20)) [20],
  o1 22 (.buildF 5 1 [(.int .u8 0)] [(0, 1, (.t 21))]) [21],
  o1 23 (.appO 5 1 1 (.t 19) (.t 22)) [19, 22],
  o1 4 (.mv (.t 23)) [23]]
@[reducible] def fREnc_k0 : KCode := (.kill [18] (.reg fREnc_r4))
@[reducible] def fREnc_r5 : List (DOper × List Nat) := [
  o1 24 (.fieldAddr 1 (.t 5)) [5],
  o1 25 (.load none (.t 24)) [24],
  o1 26 (.mv (.k (.int .i64 0))) []]
@[reducible] def fREnc_r6 : List (DOper × List Nat) := [
  o1 27 (.bin false .lss (.t 26) (.t 25)) []]
@[reducible] def fREnc_k1 : KCode := (.keep [1, 4] (.exit 0))
@[reducible] def fREnc_r7 : List (DOper × List Nat) := [
  o1 28 (.mv (.t 26)) [],
  o1 6 (.mv (.t 28)) [28]]
@[reducible] def fREnc_r8 : List (DOper × List Nat) := [
  o1 29 (.mv (.t 4)) [4],
  o1 30 (.fieldAddr 2 (.t 1)) [],
  o1 31 (.load none (.t 30)) [30],
  o1 32 (.mv (.t 6)) [6],
  o1 33 (.bin false .mul (.k (.int .i64 8)) (.t 32)) [32],
  o1 34 (.bin false .shr (.t 31) (.t 33)) [31, 33],
  o1 35 (.convI .u8 (.t 34)) [34],
  o1 36 (.buildF 5 1 [(.int .u8 0)] [(0, 1, (.t 35))]) [35],
  o1 37 (.appO 5 1 1 (.t 29) (.t 36)) [29, 36],
  o1 4 (.mv (.t 37)) [37]]
@[reducible] def fREnc_r9 : List (DOper × List Nat) := [
  o1 38 (.bin false .add (.t 26) (.k (.int .i64 1))) [26],
  o1 26 (.mv (.t 38)) [38]]
/-- live: [1, 4, 25, 26] -/
@[reducible] def fREnc_l2 : KCode := (.seq (.reg fREnc_r6) (.seq (.cond (.t 27) (.kill [27] .skip) fREnc_k1) (.kill [27] (.seq (.block 1 (.seq (.reg fREnc_r7) (.reg fREnc_r8))) (.keep [1, 4, 25, 26] (.reg fREnc_r9))))))
@[reducible] def fREnc_r10 : List (DOper × List Nat) := [
  o1 39 (.fieldAddr 0 (.t 1)) [],
  o1 40 (.load none (.t 39)) [39],
  o1 41 (.bin false .eql (.t 40) (.k (.int .u8 8))) [40]]
@[reducible] def fREnc_r11 : List (DOper × List Nat) := [
  o1 42 (.mv (.t 4)) [4],
  o1 43 (.fieldAddr 3 (.t 1)) [],
  o1 44 (.load none (.t 43)) [43],
  o1 45 (.appO 5 1 1 (.t 42) (.t 44)) [42, 44],
  o1 4 (.mv (.t 45)) [45]]
@[reducible] def fREnc_k3 : KCode := (.kill [41] (.reg fREnc_r11))
@[reducible] def fREnc_r12 : List (DOper × List Nat) := [
  o1 47 (.mv (.t 4)) [],
  o1 48 (.call 30 [(.t 47)]) [47],
  o1 46 (.mv (.t 48)) [48],
  o1 49 (.extract 0 (.t 46)) [],
  o1 50 (.extract 1 (.t 46)) [46],
  o1 7 (.alloc 69 [(.int .u8 0), (.int .u8 0), (.int .u32 0), (.list 1 ⟨true, true, false⟩ [])]) [],
  (⟨⟨none, none, .store 4 (.t 7) (.t 49)⟩, 0, []⟩, [49]),
  o1 8 (.mv (.t 50)) [50]]
@[reducible] def fREnc_r13 : List (DOper × List Nat) := [
  o1 51 (.mv (.t 8)) [8],
  o1 52 (.bin false .neq (.t 51) (.k (.int .i64 0))) [51],
  o1 53 (.mv (.t 52)) [52],
  (⟨⟨(some 54), (some (53, false)), .fieldAddr 0 (.t 7)⟩, 0, []⟩, []),
  (⟨⟨(some 55), (some (53, false)), .load none (.t 54)⟩, 0, []⟩, [54]),
  (⟨⟨(some 56), (some (53, false)), .fieldAddr 0 (.t 1)⟩, 0, []⟩, []),
  (⟨⟨(some 57), (some (53, false)), .load none (.t 56)⟩, 0, []⟩, [56]),
  (⟨⟨(some 58), (some (53, false)), .bin false .neq (.t 55) (.t 57)⟩, 0, []⟩, [55, 57]),
  o1 59 (.pick (.t 53) (.k (.bool true)) (.t 58)) [53, 58],
  o1 60 (.mv (.t 59)) [59],
  (⟨⟨(some 61), (some (60, false)), .fieldAddr 1 (.t 7)⟩, 0, []⟩, []),
  (⟨⟨(some 62), (some (60, false)), .load none (.t 61)⟩, 0, []⟩, [61]),
  (⟨⟨(some 63), (some (60, false)), .fieldAddr 1 (.t 1)⟩, 0, []⟩, []),
  (⟨⟨(some 64), (some (60, false)), .load none (.t 63)⟩, 0, []⟩, [63]),
  (⟨⟨(some 65), (some (60, false)), .bin false .neq (.t 62) (.t 64)⟩, 0, []⟩, [62, 64]),
  o1 66 (.pick (.t 60) (.k (.bool true)) (.t 65)) [60, 65],
  o1 67 (.mv (.t 66)) [66],
  (⟨⟨(some 68), (some (67, false)), .fieldAddr 2 (.t 7)⟩, 0, []⟩, []),
  (⟨⟨(some 69), (some (67, false)), .load none (.t 68)⟩, 0, []⟩, [68]),
  (⟨⟨(some 70), (some (67, false)), .fieldAddr 2 (.t 1)⟩, 0, []⟩, []),
  (⟨⟨(some 71), (some (67, false)), .load none (.t 70)⟩, 0, []⟩, [70]),
  (⟨⟨(some 72), (some (67, false)), .bin false .neq (.t 69) (.t 71)⟩, 0, []⟩, [69, 71]),
  o1 73 (.pick (.t 67) (.k (.bool true)) (.t 72)) [67, 72],
  o1 74 (.mv (.t 73)) [73],
  (⟨⟨(some 75), (some (74, false)), .fieldAddr 3 (.t 7)⟩, 0, []⟩, [7]),
  (⟨⟨(some 76), (some (74, false)), .load none (.t 75)⟩, 0, []⟩, [75]),
  (⟨⟨(some 77), (some (74, false)), .fieldAddr 3 (.t 1)⟩, 0, []⟩, [1]),
  (⟨⟨(some 78), (some (74, false)), .load none (.t 77)⟩, 0, []⟩, [77]),
  (⟨⟨(some 79), (some (74, false)), .call 42 [(.t 76), (.t 78)]⟩, 0, []⟩, [76, 78]),
  (⟨⟨(some 80), (some (74, false)), .un .not (.t 79)⟩, 0, []⟩, [79]),
  o1 81 (.pick (.t 74) (.k (.bool true)) (.t 80)) [74, 80]]
@[reducible] def fREnc_r14 : List (DOper × List Nat) := [
  o1 2 (.mv (.k (.list 1 ⟨true, true, false⟩ []))) [],
  o1 3 (.mv (.k (.int .i64 1))) []]
@[reducible] def fREnc_k4 : KCode := (.keep [] (.seq (.reg fREnc_r14) .ret))
@[reducible] def fREnc_r15 : List (DOper × List Nat) := [
  o1 82 (.mv (.t 4)) [4],
  o1 2 (.mv (.t 82)) [82],
  o1 3 (.mv (.k (.int .i64 0))) []]
/-- (bosun/opcode.Request).Encode -/
@[reducible] def fREnc : KCode := (.seq (.reg fREnc_r0) (.seq (.reg fREnc_r1) (.seq (.draw fREnc_r2) (.seq (.seq (.reg fREnc_r3) (.cond (.t 18) fREnc_k0 (.kill [18] .skip))) (.keep [1, 4, 5] (.seq (.seq (.reg fREnc_r5) (.block 0 (.loop fREnc_l2))) (.keep [1, 4] (.seq (.seq (.reg fREnc_r10) (.cond (.t 41) fREnc_k3 (.kill [41] .skip))) (.keep [1, 4] (.seq (.reg fREnc_r12) (.seq (.seq (.reg fREnc_r13) (.cond (.t 81) fREnc_k4 (.kill [81] .skip))) (.keep [4] (.seq (.reg fREnc_r15) .ret)))))))))))))
@[reducible] def fREnc_rs : List IRes := [.tmp 2, .tmp 3]
theorem fREnc_low : lowFunc Try.prog 33 [(1, 2), (2, 0)] [] = some ⟨fREnc.bare, fREnc_rs, 83⟩ := by kernel_rfl

@[reducible] def fRREnc_r0 : List (DOper × List Nat) := [
  o1 1 (.box 72 (.t 0)) [0],
  o1 2 (.mv (.k (.list 1 ⟨true, true, false⟩ []))) [2],
  o1 3 (.mv (.k (.bool false))) [3]]
@[reducible] def fRREnc_r1 : List (DOper × List Nat) := [
  o1 6 (.fieldAddr 0 (.t 1)) [],
  o1 7 (.load none (.t 6)) [6],
  o1 8 (.buildO 5 1 [(.int .u8 0)] [(0, 1, (.t 7))]) [7],
  o1 4 (.mv (.t 8)) [8]]
@[reducible] def fRREnc_r2 : List (DOper × List Nat) := [
  o1 9 (.fieldAddr 1 (.t 1)) [],
  o1 10 (.load none (.t 9)) [9],
  o1 11 (.bin false .eql (.t 10) (.k (.int .u8 0))) [10],
  o1 12 (.mv (.t 11)) [11],
  (⟨⟨(some 13), (some (12, true)), .fieldAddr 2 (.t 1)⟩, 0, []⟩, []),
  (⟨⟨(some 14), (some (12, true)), .load none (.t 13)⟩, 0, []⟩, [13]),
  (⟨⟨(some 15), (some (12, true)), .bin false .eql (.t 14) (.k (.int .u32 0))⟩, 0, []⟩, [14]),
  o1 16 (.pick (.t 12) (.t 15) (.k (.bool false))) [12, 15],
  o1 17 (.mv (.t 16)) [16],
  (⟨⟨(some 18), (some (17, true)), .fieldAddr 3 (.t 1)⟩, 0, []⟩, []),
  (⟨⟨(some 19), (some (17, true)), .load none (.t 18)⟩, 0, []⟩, [18]),
  (⟨⟨(some 20), (some (17, true)), .len true (.t 19)⟩, 0, []⟩, [19]),
  (⟨⟨(some 21), (some (17, true)), .bin false .eql (.t 20) (.k (.int .i64 0))⟩, 0, []⟩, [20]),
  o1 22 (.pick (.t 17) (.t 21) (.k (.bool false))) [17, 21],
  o1 5 (.mv (.t 22)) [22]]
@[reducible] def fRREnc_r3 : List (DOper × List Nat) := [
  o1 23 (.fieldAddr 0 (.t 1)) [],
  o1 24 (.load none (.t 23)) [23]]
@[reducible] def fRREnc_r4 : List (DOper × List Nat) := [
  o1 26 (.bin false .eql (.t 24) (.k (.int .u8 0))) [],
  o1 25 (.mv (.t 26)) [26]]
@[reducible] def fRREnc_r5 : List (DOper × List Nat) := [
  o1 27 (.bin false .eql (.t 24) (.k (.int .u8 3))) [],
  o1 25 (.mv (.t 27)) [27]]
@[reducible] def fRREnc_r6 : List (DOper × List Nat) := [
  o1 28 (.bin false .eql (.t 24) (.k (.int .u8 4))) [],
  o1 25 (.mv (.t 28)) [28]]
@[reducible] def fRREnc_r7 : List (DOper × List Nat) := [
  o1 29 (.bin false .eql (.t 24) (.k (.int .u8 7))) [],
  o1 25 (.mv (.t 29)) [29]]
@[reducible] def fRREnc_r8 : List (DOper × List Nat) := [
  o1 30 (.bin false .eql (.t 24) (.k (.int .u8 12))) [],
  o1 25 (.mv (.t 30)) [30]]
@[reducible] def fRREnc_k0 : KCode := (.kill [25] (.reg fRREnc_r8))
@[reducible] def fRREnc_k1 : KCode := (.kill [25] (.seq (.reg fRREnc_r7) (.cond (.t 25) .skip fRREnc_k0)))
@[reducible] def fRREnc_k2 : KCode := (.kill [25] (.seq (.reg fRREnc_r6) (.cond (.t 25) .skip fRREnc_k1)))
@[reducible] def fRREnc_k3 : KCode := (.kill [25] (.seq (.reg fRREnc_r5) (.cond (.t 25) .skip fRREnc_k2)))
@[reducible] def fRREnc_r9 : List (DOper × List Nat) := [
  o1 31 (.mv (.t 4)) [4],
  o1 32 (.mv (.t 5)) [5],
  o1 2 (.mv (.t 31)) [31],
  o1 3 (.mv (.t 32)) [32]]
@[reducible] def fRREnc_r10 : List (DOper × List Nat) := [
  o1 34 (.bin false .eql (.t 24) (.k (.int .u8 1))) [],
  o1 33 (.mv (.t 34)) [34]]
@[reducible] def fRREnc_r11 : List (DOper × List Nat) := [
  o1 35 (.mv (.t 4)) [4],
  o1 36 (.fieldAddr 1 (.t 1)) [],
  o1 37 (.load none (.t 36)) [36],
  o1 38 (.buildF 5 1 [(.int .u8 0)] [(0, 1, (.t 37))]) [37],
  o1 39 (.appO 5 1 1 (.t 35) (.t 38)) [35, 38],
  o1 4 (.mv (.t 39)) [39]]
@[reducible] def fRREnc_r12 : List (DOper × List Nat) := [
  o1 40 (.mv (.t 4)) [4],
  o1 41 (.fieldAddr 2 (.t 1)) [],
  o1 42 (.load none (.t 41)) [41],
  o1 43 (.convI .u8 (.t 42)) [42],
  o1 44 (.buildF 5 1 [(.int .u8 0)] [(0, 1, (.t 43))]) [43],
  o1 45 (.appO 5 1 1 (.t 40) (.t 44)) [40, 44],
  o1 4 (.mv (.t 45)) [45]]
@[reducible] def fRREnc_r13 : List (DOper × List Nat) := [
  o1 46 (.mv (.t 4)) [4],
  o1 47 (.fieldAddr 2 (.t 1)) [],
  o1 48 (.load none (.t 47)) [47],
  o1 49 (.bin false .shr (.t 48) (.k (.int .u64 8))) [48],
  o1 50 (.convI .u8 (.t 49)) [49],
  o1 51 (.buildF 5 1 [(.int .u8 0)] [(0, 1, (.t 50))]) [50],
  o1 52 (.appO 5 1 1 (.t 46) (.t 51)) [46, 51],
  o1 4 (.mv (.t 52)) [52]]
@[reducible] def fRREnc_r14 : List (DOper × List Nat) := [
  o1 53 (.mv (.t 4)) [4],
  o1 54 (.fieldAddr 2 (.t 1)) [],
  o1 55 (.load none (.t 54)) [54],
  o1 56 (.bin false .shr (.t 55) (.k (.int .u64 16))) [55],
  o1 57 (.convI .u8 (.t 56)) [56],
  o1 58 (.buildF 5 1 [(.int .u8 0)] [(0, 1, (.t 57))]) [57],
  o1 59 (.appO 5 1 1 (.t 53) (.t 58)) [53, 58],
  o1 4 (.mv (.t 59)) [59]]
@[reducible] def fRREnc_r15 : List (DOper × List Nat) := [
  o1 60 (.mv (.t 4)) [4],
  o2 61 1 (.fieldAddr 2 (.t 1)) [],
  o2 62 2 (.load none (.t 61)) [61],
  o2 63 3 (.bin false .shr (.t 62) (.k (.int .u64 24))) [62],
  o2 64 4 (.convI .u8 (.t 63)) [63],
  o2 65 5 (.buildF 5 1 [(.int .u8 0)] [(0, 1, (.t 64))]) [64],
  o2 67 7 (.fieldAddr 3 (.t 1)) [1],
  o2 68 8 (.load none (.t 67)) [67],
  o2 69 9 (.len true (.t 68)) [68],
  o2 70 10 (.bin false .eql (.t 69) (.k (.int .i64 0))) [69],
  (⟨⟨(some 66), none, .appO 5 1 1 (.t 60) (.t 65)⟩, 6, [8]⟩, [60, 65]),
  o2 2 11 (.mv (.t 66)) [66],
  o2 3 12 (.mv (.t 70)) [70]]
@[reducible] def fRREnc_r16 : List (DOper × List Nat) := [
  o1 72 (.bin false .eql (.t 24) (.k (.int .u8 2))) [],
  o1 71 (.mv (.t 72)) [72]]
@[reducible] def fRREnc_r17 : List (DOper × List Nat) := [
  o1 73 (.mv (.t 4)) [4],
  o1 74 (.fieldAddr 2 (.t 1)) [],
  o1 75 (.load none (.t 74)) [74],
  o1 76 (.convI .u8 (.t 75)) [75],
  o1 77 (.buildF 5 1 [(.int .u8 0)] [(0, 1, (.t 76))]) [76],
  o1 78 (.appO 5 1 1 (.t 73) (.t 77)) [73, 77],
  o1 4 (.mv (.t 78)) [78]]
@[reducible] def fRREnc_r18 : List (DOper × List Nat) := [
  o1 79 (.mv (.t 4)) [4],
  o2 80 1 (.fieldAddr 2 (.t 1)) [],
  o2 81 2 (.load none (.t 80)) [80],
  o2 82 3 (.bin false .shr (.t 81) (.k (.int .u64 8))) [81],
  o2 83 4 (.convI .u8 (.t 82)) [82],
  o2 84 5 (.buildF 5 1 [(.int .u8 0)] [(0, 1, (.t 83))]) [83],
  o2 86 7 (.fieldAddr 1 (.t 1)) [],
  o2 87 8 (.load none (.t 86)) [86],
  o2 88 9 (.bin false .eql (.t 87) (.k (.int .u8 0))) [87],
  (⟨⟨(some 85), none, .appO 5 1 1 (.t 79) (.t 84)⟩, 6, [8]⟩, [79, 84]),
  o2 89 10 (.mv (.t 88)) [88],
  (⟨⟨(some 90), (some (89, true)), .fieldAddr 2 (.t 1)⟩, 11, []⟩, []),
  (⟨⟨(some 91), (some (89, true)), .load none (.t 90)⟩, 12, []⟩, [90]),
  (⟨⟨(some 92), (some (89, true)), .bin false .lss (.t 91) (.k (.int .u32 65536))⟩, 13, []⟩, [91]),
  o2 93 14 (.pick (.t 89) (.t 92) (.k (.bool false))) [89, 92],
  o2 94 15 (.mv (.t 93)) [93],
  (⟨⟨(some 95), (some (94, true)), .fieldAddr 3 (.t 1)⟩, 16, []⟩, [1]),
  (⟨⟨(some 96), (some (94, true)), .load none (.t 95)⟩, 17, []⟩, [95]),
  (⟨⟨(some 97), (some (94, true)), .len true (.t 96)⟩, 18, []⟩, [96]),
  (⟨⟨(some 98), (some (94, true)), .bin false .eql (.t 97) (.k (.int .i64 0))⟩, 19, []⟩, [97]),
  o2 99 20 (.pick (.t 94) (.t 98) (.k (.bool false))) [94, 98],
  o2 2 21 (.mv (.t 85)) [85],
  o2 3 22 (.mv (.t 99)) [99]]
@[reducible] def fRREnc_r19 : List (DOper × List Nat) := [
  o1 101 (.bin false .eql (.t 24) (.k (.int .u8 6))) [],
  o1 100 (.mv (.t 101)) [101]]
@[reducible] def fRREnc_r20 : List (DOper × List Nat) := [
  o1 102 (.bin false .eql (.t 24) (.k (.int .u8 9))) [],
  o1 100 (.mv (.t 102)) [102]]
@[reducible] def fRREnc_k4 : KCode := (.kill [100] (.reg fRREnc_r20))
@[reducible] def fRREnc_r21 : List (DOper × List Nat) := [
  o1 103 (.mv (.t 4)) [4],
  o2 104 1 (.fieldAddr 1 (.t 1)) [],
  o2 105 2 (.load none (.t 104)) [104],
  o2 106 3 (.buildF 5 1 [(.int .u8 0)] [(0, 1, (.t 105))]) [105],
  o2 108 5 (.fieldAddr 2 (.t 1)) [],
  o2 109 6 (.load none (.t 108)) [108],
  o2 110 7 (.bin false .eql (.t 109) (.k (.int .u32 0))) [109],
  (⟨⟨(some 107), none, .appO 5 1 1 (.t 103) (.t 106)⟩, 4, [6]⟩, [103, 106]),
  o2 111 8 (.mv (.t 110)) [110],
  (⟨⟨(some 112), (some (111, true)), .fieldAddr 3 (.t 1)⟩, 9, []⟩, [1]),
  (⟨⟨(some 113), (some (111, true)), .load none (.t 112)⟩, 10, []⟩, [112]),
  (⟨⟨(some 114), (some (111, true)), .len true (.t 113)⟩, 11, []⟩, [113]),
  (⟨⟨(some 115), (some (111, true)), .bin false .eql (.t 114) (.k (.int .i64 0))⟩, 12, []⟩, [114]),
  o2 116 13 (.pick (.t 111) (.t 115) (.k (.bool false))) [111, 115],
  o2 2 14 (.mv (.t 107)) [107],
  o2 3 15 (.mv (.t 116)) [116]]
@[reducible] def fRREnc_r22 : List (DOper × List Nat) := [
  o1 118 (.bin false .eql (.t 24) (.k (.int .u8 8))) [24],
  o1 117 (.mv (.t 118)) [118]]
@[reducible] def fRREnc_r23 : List (DOper × List Nat) := [
  o1 119 (.mv (.t 4)) [4],
  o2 120 1 (.fieldAddr 3 (.t 1)) [],
  o2 121 2 (.load none (.t 120)) [120],
  o2 123 4 (.fieldAddr 1 (.t 1)) [],
  o2 124 5 (.load none (.t 123)) [123],
  o2 125 6 (.bin false .eql (.t 124) (.k (.int .u8 0))) [124],
  (⟨⟨(some 122), none, .appO 5 1 1 (.t 119) (.t 121)⟩, 3, [5]⟩, [119, 121]),
  o2 126 7 (.mv (.t 125)) [125],
  (⟨⟨(some 127), (some (126, true)), .fieldAddr 2 (.t 1)⟩, 8, []⟩, []),
  (⟨⟨(some 128), (some (126, true)), .load none (.t 127)⟩, 9, []⟩, [127]),
  (⟨⟨(some 129), (some (126, true)), .bin false .eql (.t 128) (.k (.int .u32 0))⟩, 10, []⟩, [128]),
  o2 130 11 (.pick (.t 126) (.t 129) (.k (.bool false))) [126, 129],
  o2 131 12 (.mv (.t 130)) [130],
  (⟨⟨(some 132), (some (131, true)), .fieldAddr 3 (.t 1)⟩, 13, []⟩, []),
  (⟨⟨(some 133), (some (131, true)), .load none (.t 132)⟩, 14, []⟩, [132]),
  (⟨⟨(some 134), (some (131, true)), .len true (.t 133)⟩, 15, []⟩, [133]),
  (⟨⟨(some 135), (some (131, true)), .bin false .gtr (.t 134) (.k (.int .i64 0))⟩, 16, []⟩, [134]),
  o2 136 17 (.pick (.t 131) (.t 135) (.k (.bool false))) [131, 135],
  o2 137 18 (.mv (.t 136)) [136],
  (⟨⟨(some 138), (some (137, true)), .fieldAddr 3 (.t 1)⟩, 19, []⟩, [1]),
  (⟨⟨(some 139), (some (137, true)), .load none (.t 138)⟩, 20, []⟩, [138]),
  (⟨⟨(some 140), (some (137, true)), .len true (.t 139)⟩, 21, []⟩, [139]),
  (⟨⟨(some 141), (some (137, true)), .bin false .leq (.t 140) (.k (.int .i64 64))⟩, 22, []⟩, [140]),
  o2 142 23 (.pick (.t 137) (.t 141) (.k (.bool false))) [137, 141],
  o2 2 24 (.mv (.t 122)) [122],
  o2 3 25 (.mv (.t 142)) [142]]
@[reducible] def fRREnc_k5 : KCode := (.kill [117] (.seq (.draw fRREnc_r23) .ret))
@[reducible] def fRREnc_k6 : KCode := (.kill [24, 100] (.seq (.draw fRREnc_r21) .ret))
@[reducible] def fRREnc_k7 : KCode := (.kill [100] (.seq (.reg fRREnc_r22) (.cond (.t 117) fRREnc_k5 (.keep [] .skip))))
@[reducible] def fRREnc_k8 : KCode := (.kill [24, 71] (.seq (.reg fRREnc_r17) (.seq (.draw fRREnc_r18) .ret)))
@[reducible] def fRREnc_k9 : KCode := (.kill [71] (.seq (.seq (.reg fRREnc_r19) (.cond (.t 100) .skip fRREnc_k4)) (.kill [101, 102] (.cond (.t 100) fRREnc_k6 fRREnc_k7))))
@[reducible] def fRREnc_k10 : KCode := (.kill [24, 33] (.seq (.reg fRREnc_r11) (.seq (.reg fRREnc_r12) (.seq (.reg fRREnc_r13) (.seq (.reg fRREnc_r14) (.seq (.draw fRREnc_r15) .ret))))))
@[reducible] def fRREnc_k11 : KCode := (.kill [33] (.seq (.reg fRREnc_r16) (.cond (.t 71) fRREnc_k8 fRREnc_k9)))
@[reducible] def fRREnc_k12 : KCode := (.keep [4, 5] (.seq (.reg fRREnc_r9) .ret))
@[reducible] def fRREnc_k13 : KCode := (.kill [5, 25] (.seq (.reg fRREnc_r10) (.cond (.t 33) fRREnc_k10 fRREnc_k11)))
@[reducible] def fRREnc_r24 : List (DOper × List Nat) := [
  o1 2 (.mv (.k (.list 1 ⟨true, true, false⟩ []))) [],
  o1 3 (.mv (.k (.bool false))) []]
/-- bosun/bosunref16.Encode -/
@[reducible] def fRREnc : KCode := (.seq (.reg fRREnc_r0) (.seq (.reg fRREnc_r1) (.seq (.reg fRREnc_r2) (.seq (.seq (.reg fRREnc_r3) (.block 0 (.seq (.seq (.reg fRREnc_r4) (.cond (.t 25) .skip fRREnc_k3)) (.kill [26, 27, 28, 29, 30] (.cond (.t 25) fRREnc_k12 fRREnc_k13))))) (.keep [] (.seq (.reg fRREnc_r24) .ret))))))
@[reducible] def fRREnc_rs : List IRes := [.tmp 2, .tmp 3]
theorem fRREnc_low : lowFunc Try.prog 34 [(1, 2)] [(15, [0, 1, 2, 3, 4, 5, 7, 8, 9, 10, 6, 11, 12]), (18, [0, 1, 2, 3, 4, 5, 7, 8, 9, 6, 10, 11, 12, 13, 14, 15, 16, 17, 18, 19, 20, 21, 22]), (21, [0, 1, 2, 3, 5, 6, 7, 4, 8, 9, 10, 11, 12, 13, 14, 15]), (23, [0, 1, 2, 4, 5, 6, 3, 7, 8, 9, 10, 11, 12, 13, 14, 15, 16, 17, 18, 19, 20, 21, 22, 23, 24, 25])] = some ⟨fRREnc.bare, fRREnc_rs, 143⟩ := by kernel_rfl

@[reducible] def fSame16_r0 : List (DOper × List Nat) := [
  o1 2 (.box 69 (.t 0)) [0],
  o1 3 (.box 72 (.t 1)) [1],
  o1 4 (.mv (.k (.bool false))) [4]]
@[reducible] def fSame16_r1 : List (DOper × List Nat) := [
  o1 5 (.fieldAddr 0 (.t 2)) [],
  o1 6 (.load none (.t 5)) [5],
  o1 7 (.fieldAddr 0 (.t 3)) [],
  o1 8 (.load none (.t 7)) [7],
  o1 9 (.bin false .eql (.t 6) (.t 8)) [6, 8],
  o1 10 (.mv (.t 9)) [9],
  (⟨⟨(some 11), (some (10, true)), .fieldAddr 1 (.t 2)⟩, 0, []⟩, []),
  (⟨⟨(some 12), (some (10, true)), .load none (.t 11)⟩, 0, []⟩, [11]),
  (⟨⟨(some 13), (some (10, true)), .fieldAddr 1 (.t 3)⟩, 0, []⟩, []),
  (⟨⟨(some 14), (some (10, true)), .load none (.t 13)⟩, 0, []⟩, [13]),
  (⟨⟨(some 15), (some (10, true)), .bin false .eql (.t 12) (.t 14)⟩, 0, []⟩, [12, 14]),
  o1 16 (.pick (.t 10) (.t 15) (.k (.bool false))) [10, 15],
  o1 17 (.mv (.t 16)) [16],
  (⟨⟨(some 18), (some (17, true)), .fieldAddr 2 (.t 2)⟩, 0, []⟩, []),
  (⟨⟨(some 19), (some (17, true)), .load none (.t 18)⟩, 0, []⟩, [18]),
  (⟨⟨(some 20), (some (17, true)), .fieldAddr 2 (.t 3)⟩, 0, []⟩, []),
  (⟨⟨(some 21), (some (17, true)), .load none (.t 20)⟩, 0, []⟩, [20]),
  (⟨⟨(some 22), (some (17, true)), .bin false .eql (.t 19) (.t 21)⟩, 0, []⟩, [19, 21]),
  o1 23 (.pick (.t 17) (.t 22) (.k (.bool false))) [17, 22],
  o1 24 (.mv (.t 23)) [23],
  (⟨⟨(some 25), (some (24, true)), .fieldAddr 3 (.t 2)⟩, 0, []⟩, [2]),
  (⟨⟨(some 26), (some (24, true)), .load none (.t 25)⟩, 0, []⟩, [25]),
  (⟨⟨(some 27), (some (24, true)), .toStr (.t 26)⟩, 0, []⟩, [26]),
  (⟨⟨(some 28), (some (24, true)), .fieldAddr 3 (.t 3)⟩, 0, []⟩, [3]),
  (⟨⟨(some 29), (some (24, true)), .load none (.t 28)⟩, 0, []⟩, [28]),
  (⟨⟨(some 30), (some (24, true)), .toStr (.t 29)⟩, 0, []⟩, [29]),
  (⟨⟨(some 31), (some (24, true)), .bin false .eql (.t 27) (.t 30)⟩, 0, []⟩, [27, 30]),
  o1 32 (.pick (.t 24) (.t 31) (.k (.bool false))) [24, 31],
  o1 4 (.mv (.t 32)) [32]]
/-- bosun/bosunlaw16.same -/
@[reducible] def fSame16 : KCode := (.seq (.reg fSame16_r0) (.seq (.reg fSame16_r1) .ret))
@[reducible] def fSame16_rs : List IRes := [.tmp 4]
theorem fSame16_low : lowFunc Try.prog 32 [] [] = some ⟨fSame16.bare, fSame16_rs, 33⟩ := by kernel_rfl

@[reducible] def fLives16_r0 : List (DOper × List Nat) := [
  o1 0 (.mv (.k (.bool false))) [0]]
@[reducible] def fLives16_r1 : List (DOper × List Nat) := [
  o1 4 (.buildF 5 1 [(.int .u8 0), (.int .u8 0), (.int .u8 0), (.int .u8 0), (.int .u8 0), (.int .u8 0)] [(0, 1, (.k (.int .u8 1))), (1, 1, (.k (.int .u8 2))), (2, 1, (.k (.int .u8 0))), (3, 1, (.k (.int .u8 4))), (4, 1, (.k (.int .u8 0))), (5, 1, (.k (.int .u8 0)))]) [],
  o1 5 (.call 30 [(.t 4)]) [4],
  o1 3 (.mv (.t 5)) [5],
  o1 6 (.extract 0 (.t 3)) [],
  o1 7 (.extract 1 (.t 3)) [3],
  o1 1 (.alloc 69 [(.int .u8 0), (.int .u8 0), (.int .u32 0), (.list 1 ⟨true, true, false⟩ [])]) [],
  (⟨⟨none, none, .store 4 (.t 1) (.t 6)⟩, 0, []⟩, [6]),
  o1 2 (.mv (.t 7)) [7]]
@[reducible] def fLives16_r2 : List (DOper × List Nat) := [
  o1 8 (.mv (.t 2)) [2],
  o1 9 (.bin false .eql (.t 8) (.k (.int .i64 0))) [8],
  o1 10 (.mv (.t 9)) [9],
  (⟨⟨(some 11), (some (10, true)), .fieldAddr 0 (.t 1)⟩, 0, []⟩, []),
  (⟨⟨(some 12), (some (10, true)), .load none (.t 11)⟩, 0, []⟩, [11]),
  (⟨⟨(some 13), (some (10, true)), .bin false .eql (.t 12) (.k (.int .u8 1))⟩, 0, []⟩, [12]),
  o1 14 (.pick (.t 10) (.t 13) (.k (.bool false))) [10, 13],
  o1 15 (.mv (.t 14)) [14],
  (⟨⟨(some 16), (some (15, true)), .fieldAddr 1 (.t 1)⟩, 0, []⟩, []),
  (⟨⟨(some 17), (some (15, true)), .load none (.t 16)⟩, 0, []⟩, [16]),
  (⟨⟨(some 18), (some (15, true)), .bin false .eql (.t 17) (.k (.int .u8 2))⟩, 0, []⟩, [17]),
  o1 19 (.pick (.t 15) (.t 18) (.k (.bool false))) [15, 18],
  o1 20 (.mv (.t 19)) [19],
  (⟨⟨(some 21), (some (20, true)), .fieldAddr 2 (.t 1)⟩, 0, []⟩, [1]),
  (⟨⟨(some 22), (some (20, true)), .load none (.t 21)⟩, 0, []⟩, [21]),
  (⟨⟨(some 23), (some (20, true)), .bin false .eql (.t 22) (.k (.int .u32 1024))⟩, 0, []⟩, [22]),
  o1 24 (.pick (.t 20) (.t 23) (.k (.bool false))) [20, 23],
  o1 25 (.mv (.t 24)) [24],
  o1 26 (.pick (.t 25) (.k (.bool true)) (.k (.bool false))) [25],
  o1 27 (.mv (.t 26)) [26],
  o1 28 (.pick (.t 27) (.k (.bool true)) (.k (.bool false))) [27],
  o1 0 (.mv (.t 28)) [28]]
/-- bosun/bosunlaw16.lives -/
@[reducible] def fLives16 : KCode := (.seq (.reg fLives16_r0) (.seq (.reg fLives16_r1) (.seq (.reg fLives16_r2) .ret)))
@[reducible] def fLives16_rs : List IRes := [.tmp 0]
theorem fLives16_low : lowFunc Try.prog 18 [] [] = some ⟨fLives16.bare, fLives16_rs, 29⟩ := by kernel_rfl

@[reducible] def fAEnc_r0 : List (DOper × List Nat) := [
  o1 1 (.box 44 (.t 0)) [0],
  o1 2 (.mv (.k (.list 1 ⟨true, true, false⟩ []))) [2]]
@[reducible] def fAEnc_r1 : List (DOper × List Nat) := [
  o1 3 (.fieldAddr 0 (.t 1)) [],
  o1 4 (.load none (.t 3)) [3],
  o1 5 (.fieldAddr 1 (.t 1)) [],
  o1 6 (.load none (.t 5)) [5],
  o1 7 (.buildF 5 1 [(.int .u8 0), (.int .u8 0), (.int .u8 0)] [(0, 1, (.k (.int .u8 96))), (1, 1, (.t 4)), (2, 1, (.t 6))]) [4, 6],
  o1 8 (.fieldAddr 2 (.t 1)) [1],
  o1 9 (.load none (.t 8)) [8],
  o1 10 (.appF 5 1 1 (.t 7) (.t 9)) [7, 9],
  o1 2 (.mv (.t 10)) [10]]
/-- (bosun/opcode.Response).Encode -/
@[reducible] def fAEnc : KCode := (.seq (.reg fAEnc_r0) (.seq (.reg fAEnc_r1) .ret))
@[reducible] def fAEnc_rs : List IRes := [.tmp 2]
theorem fAEnc_low : lowFunc Try.prog 19 [(1, 7)] [] = some ⟨fAEnc.bare, fAEnc_rs, 11⟩ := by kernel_rfl

@[reducible] def fAnswered_r0 : List (DOper × List Nat) := [
  o1 2 (.alloc 44 [(.int .u8 0), (.int .u8 0), (.list 1 ⟨true, true, false⟩ [])]) [],
  o1 3 (.mv (.k (.int .i64 0))) [3]]
@[reducible] def fAnswered_r1 : List (DOper × List Nat) := [
  o1 5 (.mv (.t 0)) [],
  o1 6 (.len true (.t 5)) [5],
  o1 7 (.bin false .lss (.t 6) (.k (.int .i64 3))) [6],
  o1 4 (.mv (.t 7)) [7]]
@[reducible] def fAnswered_r2 : List (DOper × List Nat) := [
  o1 8 (.build [(.int .u8 0), (.int .u8 0), (.list 1 ⟨true, true, false⟩ [])] []) [],
  (⟨⟨none, none, .store 3 (.t 2) (.t 8)⟩, 0, []⟩, [8]),
  o1 3 (.mv (.k (.int .i64 18))) []]
@[reducible] def fAnswered_r3 : List (DOper × List Nat) := [
  o1 10 (.mv (.t 0)) [],
  o1 11 (.idxS 1 (.t 10) (.k (.int .i64 0))) [10],
  o1 12 (.load none (.t 11)) [11],
  o1 13 (.bin false .neq (.t 12) (.k (.int .u8 96))) [12],
  o1 9 (.mv (.t 13)) [13]]
@[reducible] def fAnswered_r4 : List (DOper × List Nat) := [
  o1 14 (.build [(.int .u8 0), (.int .u8 0), (.list 1 ⟨true, true, false⟩ [])] []) [],
  (⟨⟨none, none, .store 3 (.t 2) (.t 14)⟩, 0, []⟩, [14]),
  o1 3 (.mv (.k (.int .i64 7))) []]
@[reducible] def fAnswered_k0 : KCode := (.keep [2] (.seq (.reg fAnswered_r4) .ret))
@[reducible] def fAnswered_k1 : KCode := (.keep [2] (.seq (.reg fAnswered_r2) .ret))
@[reducible] def fAnswered_k2 : KCode := (.kill [4] (.seq (.reg fAnswered_r3) (.cond (.t 9) fAnswered_k0 (.kill [9] .skip))))
@[reducible] def fAnswered_r5 : List (DOper × List Nat) := [
  o1 15 (.mv (.t 0)) [],
  o2 16 1 (.idxS 1 (.t 15) (.k (.int .i64 1))) [15],
  o2 17 2 (.load none (.t 16)) [16],
  o2 18 3 (.mv (.t 0)) [],
  o2 19 4 (.idxS 1 (.t 18) (.k (.int .i64 2))) [18],
  o2 20 5 (.load none (.t 19)) [19],
  o2 21 6 (.mv (.t 0)) [0],
  o2 22 7 (.slS 1 (.t 21) (some (.k (.int .i64 3))) none none) [21],
  (⟨⟨(some 23), none, .call 35 [(.t 22)]⟩, 8, [5, 2]⟩, [22]),
  o2 24 9 (.build [(.int .u8 0), (.int .u8 0), (.list 1 ⟨true, true, false⟩ [])] [(0, 1, (.t 17)), (1, 1, (.t 20)), (2, 1, (.t 23))]) [17, 20, 23],
  (⟨⟨none, none, .store 3 (.t 2) (.t 24)⟩, 10, []⟩, [24]),
  o2 3 11 (.mv (.k (.int .i64 0))) []]
/-- bosun/opcode.Answered -/
@[reducible] def fAnswered : KCode := (.seq (.reg fAnswered_r0) (.seq (.block 0 (.seq (.reg fAnswered_r1) (.cond (.t 4) fAnswered_k1 fAnswered_k2))) (.keep [0, 2] (.seq (.draw fAnswered_r5) .ret))))
@[reducible] def fAnswered_rs : List IRes := [.cell 2 (some 3), .tmp 3]
theorem fAnswered_low : lowFunc Try.prog 20 [] [] = some ⟨fAnswered.bare, fAnswered_rs, 25⟩ := by kernel_rfl

@[reducible] def fWord_r0 : List (DOper × List Nat) := [
  o1 2 (.mv (.k (.list 1 ⟨true, true, false⟩ []))) [2]]
@[reducible] def fWord_r1 : List (DOper × List Nat) := [
  o1 3 (.mv (.k (.list 1 ⟨true, true, false⟩ []))) []]
@[reducible] def fWord_r2 : List (DOper × List Nat) := [
  o1 4 (.mv (.k (.int .i64 0))) []]
@[reducible] def fWord_r3 : List (DOper × List Nat) := [
  o1 5 (.mv (.t 4)) [],
  o1 6 (.bin false .lss (.t 5) (.k (.int .i64 4))) [5]]
@[reducible] def fWord_r4 : List (DOper × List Nat) := [
  o1 9 (.mv (.t 3)) [3],
  o1 10 (.mv (.t 0)) [],
  o1 11 (.bin false .rem (.t 10) (.k (.int .u32 256))) [10],
  o1 12 (.convI .u8 (.t 11)) [11],
  o1 13 (.buildF 5 1 [(.int .u8 0)] [(0, 1, (.t 12))]) [12],
  o1 14 (.appO 5 1 1 (.t 9) (.t 13)) [9, 13],
  o1 3 (.mv (.t 14)) [14]]
@[reducible] def fWord_r5 : List (DOper × List Nat) := [
  o1 15 (.mv (.t 0)) [0],
  o1 16 (.bin false .quo (.t 15) (.k (.int .u32 256))) [15],
  o1 0 (.mv (.t 16)) [16]]
@[reducible] def fWord_r6 : List (DOper × List Nat) := [
  o1 7 (.mv (.t 4)) [4],
  o1 8 (.bin false .add (.t 7) (.k (.int .i64 1))) [7],
  o1 4 (.mv (.t 8)) [8]]
/-- live: [0, 3, 4] -/
@[reducible] def fWord_l0 : KCode := (.seq (.seq (.reg fWord_r3) (.cond (.t 6) (.kill [6] .skip) (.keep [3] (.exit 0)))) (.kill [5, 6] (.seq (.block 1 (.seq (.reg fWord_r4) (.reg fWord_r5))) (.keep [0, 3, 4] (.reg fWord_r6)))))
@[reducible] def fWord_r7 : List (DOper × List Nat) := [
  o1 17 (.mv (.t 3)) [3],
  o1 2 (.mv (.t 17)) [17]]
/-- bosun/bosunref12.Word -/
@[reducible] def fWord : KCode := (.seq (.reg fWord_r0) (.seq (.reg fWord_r1) (.seq (.seq (.reg fWord_r2) (.block 0 (.loop fWord_l0))) (.keep [3] (.seq (.reg fWord_r7) .ret)))))
@[reducible] def fWord_rs : List IRes := [.tmp 2]
theorem fWord_low : lowFunc Try.prog 21 [] [] = some ⟨fWord.bare, fWord_rs, 18⟩ := by kernel_rfl

@[reducible] def fNumbers_r0 : List (DOper × List Nat) := [
  o1 2 (.mv (.k (.list 1 ⟨true, true, false⟩ []))) [2]]
@[reducible] def fNumbers_r1 : List (DOper × List Nat) := [
  o1 3 (.mv (.k (.list 1 ⟨true, true, false⟩ []))) []]
@[reducible] def fNumbers_r2 : List (DOper × List Nat) := [
  o1 6 (.mv (.t 0)) [0],
  o1 7 (.len true (.t 6)) [],
  o1 8 (.mv (.k (.int .i64 0))) []]
@[reducible] def fNumbers_r3 : List (DOper × List Nat) := [
  o1 9 (.bin false .lss (.t 8) (.t 7)) []]
@[reducible] def fNumbers_r4 : List (DOper × List Nat) := [
  o1 10 (.idxS 1 (.t 6) (.t 8)) [],
  o1 11 (.load none (.t 10)) [10],
  o1 5 (.mv (.t 11)) [11]]
@[reducible] def fNumbers_r5 : List (DOper × List Nat) := [
  o1 12 (.mv (.t 3)) [3],
  o1 13 (.mv (.t 5)) [],
  o1 14 (.convI .u8 (.t 13)) [13],
  o1 15 (.mv (.t 5)) [],
  o1 16 (.bin false .shr (.t 15) (.k (.int .u64 8))) [15],
  o1 17 (.convI .u8 (.t 16)) [16],
  o1 18 (.mv (.t 5)) [],
  o1 19 (.bin false .shr (.t 18) (.k (.int .u64 16))) [18],
  o1 20 (.convI .u8 (.t 19)) [19],
  o1 21 (.mv (.t 5)) [5],
  o1 22 (.bin false .shr (.t 21) (.k (.int .u64 24))) [21],
  o1 23 (.convI .u8 (.t 22)) [22],
  o1 24 (.buildF 5 1 [(.int .u8 0), (.int .u8 0), (.int .u8 0), (.int .u8 0)] [(0, 1, (.t 14)), (1, 1, (.t 17)), (2, 1, (.t 20)), (3, 1, (.t 23))]) [14, 17, 20, 23],
  o1 25 (.appO 5 1 1 (.t 12) (.t 24)) [12, 24],
  o1 3 (.mv (.t 25)) [25]]
@[reducible] def fNumbers_r6 : List (DOper × List Nat) := [
  o1 26 (.bin false .add (.t 8) (.k (.int .i64 1))) [8],
  o1 8 (.mv (.t 26)) [26]]
/-- live: [3, 6, 7, 8] -/
@[reducible] def fNumbers_l0 : KCode := (.seq (.reg fNumbers_r3) (.seq (.cond (.t 9) (.kill [9] .skip) (.keep [3] (.exit 0))) (.kill [9] (.seq (.block 1 (.seq (.reg fNumbers_r4) (.reg fNumbers_r5))) (.keep [3, 6, 7, 8] (.reg fNumbers_r6))))))
@[reducible] def fNumbers_r7 : List (DOper × List Nat) := [
  o1 27 (.mv (.t 3)) [3],
  o1 2 (.mv (.t 27)) [27]]
/-- bosun/opcode.Numbers -/
@[reducible] def fNumbers : KCode := (.seq (.reg fNumbers_r0) (.seq (.reg fNumbers_r1) (.seq (.seq (.reg fNumbers_r2) (.block 0 (.loop fNumbers_l0))) (.keep [3] (.seq (.reg fNumbers_r7) .ret)))))
@[reducible] def fNumbers_rs : List IRes := [.tmp 2]
theorem fNumbers_low : lowFunc Try.prog 22 [] [] = some ⟨fNumbers.bare, fNumbers_rs, 28⟩ := by kernel_rfl

@[reducible] def fSlClone_r0 : List (DOper × List Nat) := [
  o1 2 (.mv (.k (.list 1 ⟨true, true, false⟩ []))) [2]]
@[reducible] def fSlClone_r1 : List (DOper × List Nat) := [
  o1 3 (.mv (.t 0)) []]
@[reducible] def fSlClone_r2 : List (DOper × List Nat) := [
  o1 2 (.mv (.k (.list 1 ⟨true, true, false⟩ []))) []]
@[reducible] def fSlClone_k0 : KCode := (.keep [] (.seq (.reg fSlClone_r2) .ret))
@[reducible] def fSlClone_r3 : List (DOper × List Nat) := [
  o1 5 (.buildF 5 1 [] []) [],
  o1 6 (.mv (.t 0)) [0],
  o1 7 (.appF 5 1 1 (.t 5) (.t 6)) [5, 6],
  o1 2 (.mv (.t 7)) [7]]
/-- slices.Clone[[]byte,byte] -/
@[reducible] def fSlClone : KCode := (.seq (.reg fSlClone_r0) (.seq (.seq (.regN fSlClone_r1 4 false (.t 3) [3]) (.cond (.t 4) fSlClone_k0 (.kill [4] .skip))) (.keep [0] (.seq (.reg fSlClone_r3) .ret))))
@[reducible] def fSlClone_rs : List IRes := [.tmp 2]
theorem fSlClone_low : lowFunc Try.prog 35 [(3, 2)] [] = some ⟨fSlClone.bare, fSlClone_rs, 8⟩ := by kernel_rfl

@[reducible] def fSlEqual_r0 : List (DOper × List Nat) := [
  o1 4 (.mv (.k (.bool false))) [4]]
@[reducible] def fSlEqual_r1 : List (DOper × List Nat) := [
  o1 6 (.mv (.t 0)) [],
  o1 7 (.len true (.t 6)) [6],
  o1 8 (.mv (.t 1)) [],
  o1 9 (.len true (.t 8)) [8],
  o1 10 (.bin false .neq (.t 7) (.t 9)) [7, 9]]
@[reducible] def fSlEqual_r2 : List (DOper × List Nat) := [
  o1 4 (.mv (.k (.bool false))) []]
@[reducible] def fSlEqual_k0 : KCode := (.keep [] (.seq (.reg fSlEqual_r2) .ret))
@[reducible] def fSlEqual_r3 : List (DOper × List Nat) := [
  o1 11 (.mv (.t 0)) [],
  o1 12 (.len true (.t 11)) [11],
  o1 13 (.mv (.k (.int .i64 0))) []]
@[reducible] def fSlEqual_r4 : List (DOper × List Nat) := [
  o1 14 (.bin false .lss (.t 13) (.t 12)) []]
@[reducible] def fSlEqual_r5 : List (DOper × List Nat) := [
  o1 15 (.mv (.t 13)) [],
  o1 5 (.mv (.t 15)) [15]]
@[reducible] def fSlEqual_r6 : List (DOper × List Nat) := [
  o1 16 (.mv (.t 0)) [],
  o2 17 1 (.mv (.t 5)) [],
  o2 18 2 (.idxS 1 (.t 16) (.t 17)) [16, 17],
  o2 19 3 (.load none (.t 18)) [18],
  o2 20 4 (.mv (.t 1)) [],
  o2 21 5 (.mv (.t 5)) [5],
  o2 22 6 (.idxS 1 (.t 20) (.t 21)) [20, 21],
  o2 23 7 (.load none (.t 22)) [22],
  o2 24 8 (.bin false .neq (.t 19) (.t 23)) [19, 23]]
@[reducible] def fSlEqual_r7 : List (DOper × List Nat) := [
  o1 4 (.mv (.k (.bool false))) []]
@[reducible] def fSlEqual_k1 : KCode := (.keep [] (.seq (.reg fSlEqual_r7) .ret))
@[reducible] def fSlEqual_r8 : List (DOper × List Nat) := [
  o1 25 (.bin false .add (.t 13) (.k (.int .i64 1))) [13],
  o1 13 (.mv (.t 25)) [25]]
/-- live: [0, 1, 12, 13] -/
@[reducible] def fSlEqual_l2 : KCode := (.seq (.reg fSlEqual_r4) (.seq (.cond (.t 14) (.kill [14] .skip) (.keep [] (.exit 0))) (.kill [14] (.seq (.block 1 (.seq (.reg fSlEqual_r5) (.seq (.draw fSlEqual_r6) (.cond (.t 24) fSlEqual_k1 (.kill [24] .skip))))) (.keep [0, 1, 12, 13] (.reg fSlEqual_r8))))))
@[reducible] def fSlEqual_r9 : List (DOper × List Nat) := [
  o1 4 (.mv (.k (.bool true))) []]
/-- slices.Equal[[]byte,byte] -/
@[reducible] def fSlEqual : KCode := (.seq (.reg fSlEqual_r0) (.seq (.seq (.reg fSlEqual_r1) (.cond (.t 10) fSlEqual_k0 (.kill [10] .skip))) (.keep [0, 1] (.seq (.seq (.reg fSlEqual_r3) (.block 0 (.loop fSlEqual_l2))) (.keep [] (.seq (.reg fSlEqual_r9) .ret))))))
@[reducible] def fSlEqual_rs : List IRes := [.tmp 4]
theorem fSlEqual_low : lowFunc Try.prog 42 [] [] = some ⟨fSlEqual.bare, fSlEqual_rs, 26⟩ := by kernel_rfl

@[reducible] def fOpP_r0 : List (DOper × List Nat) := [
  o1 2 (.mv (.k (.bool false))) [2]]
@[reducible] def fOpP_r1 : List (DOper × List Nat) := [
  o1 11 (.call 18 []) [],
  o1 12 (.un .not (.t 11)) [11],
  o1 13 (.mv (.t 12)) [12],
  (⟨⟨(some 14), (some (13, false)), .mv (.t 0)⟩, 0, []⟩, []),
  (⟨⟨(some 15), (some (13, false)), .len true (.t 14)⟩, 0, []⟩, [14]),
  (⟨⟨(some 16), (some (13, false)), .bin false .gtr (.t 15) (.k (.int .i64 300))⟩, 0, []⟩, [15]),
  o1 17 (.pick (.t 13) (.k (.bool true)) (.t 16)) [13, 16]]
@[reducible] def fOpP_r2 : List (DOper × List Nat) := [
  o1 18 (.call 18 []) [],
  o1 2 (.mv (.t 18)) [18]]
@[reducible] def fOpP_k0 : KCode := (.keep [] (.seq (.reg fOpP_r2) .ret))
@[reducible] def fOpP_r3 : List (DOper × List Nat) := [
  o1 19 (.buildF 5 1 [] []) [],
  o1 20 (.mv (.t 0)) [],
  o1 21 (.appO 5 1 1 (.t 19) (.t 20)) [19, 20],
  o1 3 (.mv (.t 21)) [21]]
@[reducible] def fOpP_r4 : List (DOper × List Nat) := [
  o1 23 (.mv (.t 3)) [],
  o1 24 (.call 30 [(.t 23)]) [23],
  o1 22 (.mv (.t 24)) [24],
  o1 25 (.extract 0 (.t 22)) [],
  o1 26 (.extract 1 (.t 22)) [22],
  o1 4 (.alloc 69 [(.int .u8 0), (.int .u8 0), (.int .u32 0), (.list 1 ⟨true, true, false⟩ [])]) [],
  (⟨⟨none, none, .store 4 (.t 4) (.t 25)⟩, 0, []⟩, [25]),
  o1 5 (.mv (.t 26)) [26]]
@[reducible] def fOpP_r5 : List (DOper × List Nat) := [
  o1 28 (.mv (.t 0)) [],
  o1 29 (.call 31 [(.t 28)]) [28],
  o1 27 (.mv (.t 29)) [29],
  o1 30 (.extract 0 (.t 27)) [],
  o1 31 (.extract 1 (.t 27)) [27],
  o1 6 (.alloc 72 [(.int .u8 0), (.int .u8 0), (.int .u32 0), (.list 1 ⟨true, true, false⟩ [])]) [],
  (⟨⟨none, none, .store 4 (.t 6) (.t 30)⟩, 0, []⟩, [30]),
  o1 7 (.mv (.t 31)) [31]]
@[reducible] def fOpP_r6 : List (DOper × List Nat) := [
  o1 32 (.mv (.t 3)) [],
  o1 33 (.len true (.t 32)) [32],
  o1 34 (.mv (.k (.int .i64 0))) []]
@[reducible] def fOpP_r7 : List (DOper × List Nat) := [
  o1 35 (.bin false .lss (.t 34) (.t 33)) []]
@[reducible] def fOpP_k1 : KCode := (.kill [3, 33, 34, 35] (.exit 0))
@[reducible] def fOpP_r8 : List (DOper × List Nat) := [
  o1 36 (.mv (.t 34)) [],
  o1 8 (.mv (.t 36)) [36]]
@[reducible] def fOpP_r9 : List (DOper × List Nat) := [
  o1 37 (.mv (.t 3)) [],
  o1 38 (.mv (.t 8)) [8],
  o1 39 (.idxS 1 (.t 37) (.t 38)) [],
  o1 40 (.load none (.t 39)) [39],
  o1 41 (.bin false .xor (.t 40) (.k (.int .u8 255))) [40],
  o1 42 (.idxS 1 (.t 37) (.t 38)) [37, 38],
  (⟨⟨none, none, .store 1 (.t 42) (.t 41)⟩, 0, []⟩, [41, 42])]
@[reducible] def fOpP_r10 : List (DOper × List Nat) := [
  o1 43 (.bin false .add (.t 34) (.k (.int .i64 1))) [34],
  o1 34 (.mv (.t 43)) [43]]
/-- live: [0, 3, 4, 5, 6, 7, 33, 34] -/
@[reducible] def fOpP_l2 : KCode := (.seq (.reg fOpP_r7) (.seq (.cond (.t 35) (.kill [35] .skip) fOpP_k1) (.kill [35] (.seq (.block 1 (.seq (.reg fOpP_r8) (.reg fOpP_r9))) (.kill [8, 36, 37, 38, 39, 40, 41, 42] (.reg fOpP_r10))))))
@[reducible] def fOpP_r11 : List (DOper × List Nat) := [
  o1 44 (.mv (.t 5)) [],
  o1 45 (.mv (.t 7)) [7],
  o1 46 (.bin false .neq (.t 44) (.t 45)) [44, 45],
  o1 47 (.mv (.t 46)) [46],
  (⟨⟨(some 48), (some (47, false)), .load (some 4) (.t 4)⟩, 0, []⟩, []),
  (⟨⟨(some 49), (some (47, false)), .load (some 4) (.t 6)⟩, 0, []⟩, [6]),
  (⟨⟨(some 50), (some (47, false)), .call 32 [(.t 48), (.t 49)]⟩, 0, []⟩, [48, 49]),
  (⟨⟨(some 51), (some (47, false)), .un .not (.t 50)⟩, 0, []⟩, [50]),
  o1 52 (.pick (.t 47) (.k (.bool true)) (.t 51)) [47, 51]]
@[reducible] def fOpP_r12 : List (DOper × List Nat) := [
  o1 2 (.mv (.k (.bool false))) []]
@[reducible] def fOpP_k3 : KCode := (.keep [] (.seq (.reg fOpP_r12) .ret))
@[reducible] def fOpP_r13 : List (DOper × List Nat) := [
  o1 53 (.mv (.t 5)) [5],
  o1 54 (.bin false .neq (.t 53) (.k (.int .i64 0))) [53]]
@[reducible] def fOpP_r14 : List (DOper × List Nat) := [
  o1 2 (.mv (.k (.bool true))) []]
@[reducible] def fOpP_k4 : KCode := (.keep [] (.seq (.reg fOpP_r14) .ret))
@[reducible] def fOpP_r15 : List (DOper × List Nat) := [
  o1 56 (.load (some 4) (.t 4)) [4],
  o1 57 (.call 33 [(.t 56)]) [56],
  o1 55 (.mv (.t 57)) [57],
  o1 58 (.extract 0 (.t 55)) [],
  o1 59 (.extract 1 (.t 55)) [55],
  o1 9 (.mv (.t 58)) [58],
  o1 10 (.mv (.t 59)) [59]]
@[reducible] def fOpP_r16 : List (DOper × List Nat) := [
  o1 60 (.mv (.t 10)) [10],
  o1 61 (.bin false .eql (.t 60) (.k (.int .i64 0))) [60],
  o1 62 (.mv (.t 61)) [61],
  (⟨⟨(some 63), (some (62, true)), .mv (.t 9)⟩, 0, []⟩, [9]),
  (⟨⟨(some 64), (some (62, true)), .toStr (.t 63)⟩, 0, []⟩, [63]),
  (⟨⟨(some 65), (some (62, true)), .mv (.t 0)⟩, 0, []⟩, [0]),
  (⟨⟨(some 66), (some (62, true)), .toStr (.t 65)⟩, 0, []⟩, [65]),
  (⟨⟨(some 67), (some (62, true)), .bin false .eql (.t 64) (.t 66)⟩, 0, []⟩, [64, 66]),
  o1 68 (.pick (.t 62) (.t 67) (.k (.bool false))) [62, 67],
  o1 2 (.mv (.t 68)) [68]]
/-- bosun/bosunlaw16.OpcodeParses -/
@[reducible] def fOpP : KCode := (.seq (.reg fOpP_r0) (.seq (.seq (.reg fOpP_r1) (.cond (.t 17) fOpP_k0 (.kill [17] .skip))) (.keep [0] (.seq (.reg fOpP_r3) (.seq (.reg fOpP_r4) (.seq (.reg fOpP_r5) (.seq (.seq (.reg fOpP_r6) (.block 0 (.loop fOpP_l2))) (.keep [0, 4, 5, 6, 7] (.seq (.seq (.reg fOpP_r11) (.cond (.t 52) fOpP_k3 (.kill [52] .skip))) (.keep [0, 4, 5] (.seq (.seq (.reg fOpP_r13) (.cond (.t 54) fOpP_k4 (.kill [54] .skip))) (.keep [0, 4] (.seq (.reg fOpP_r15) (.seq (.reg fOpP_r16) .ret))))))))))))))
@[reducible] def fOpP_rs : List IRes := [.tmp 2]
theorem fOpP_low : lowFunc Try.prog 9 [] [] = some ⟨fOpP.bare, fOpP_rs, 69⟩ := by kernel_rfl

@[reducible] def fOpR_r0 : List (DOper × List Nat) := [
  o1 1 (.box 69 (.t 0)) [0],
  o1 2 (.mv (.k (.bool false))) [2]]
@[reducible] def fOpR_r1 : List (DOper × List Nat) := [
  o1 9 (.call 18 []) [],
  o1 10 (.un .not (.t 9)) [9],
  o1 11 (.mv (.t 10)) [10],
  (⟨⟨(some 12), (some (11, false)), .fieldAddr 3 (.t 1)⟩, 0, []⟩, []),
  (⟨⟨(some 13), (some (11, false)), .load none (.t 12)⟩, 0, []⟩, [12]),
  (⟨⟨(some 14), (some (11, false)), .len true (.t 13)⟩, 0, []⟩, [13]),
  (⟨⟨(some 15), (some (11, false)), .bin false .gtr (.t 14) (.k (.int .i64 200))⟩, 0, []⟩, [14]),
  o1 16 (.pick (.t 11) (.k (.bool true)) (.t 15)) [11, 15]]
@[reducible] def fOpR_r2 : List (DOper × List Nat) := [
  o1 17 (.call 18 []) [],
  o1 2 (.mv (.t 17)) [17]]
@[reducible] def fOpR_k0 : KCode := (.keep [] (.seq (.reg fOpR_r2) .ret))
@[reducible] def fOpR_r3 : List (DOper × List Nat) := [
  o1 19 (.load (some 4) (.t 1)) [],
  o1 20 (.call 33 [(.t 19)]) [19],
  o1 18 (.mv (.t 20)) [20],
  o1 21 (.extract 0 (.t 18)) [],
  o1 22 (.extract 1 (.t 18)) [18],
  o1 3 (.mv (.t 21)) [21],
  o1 4 (.mv (.t 22)) [22]]
@[reducible] def fOpR_r4 : List (DOper × List Nat) := [
  o1 24 (.fieldAddr 0 (.t 1)) [],
  o1 25 (.load none (.t 24)) [24],
  o1 26 (.fieldAddr 1 (.t 1)) [],
  o1 27 (.load none (.t 26)) [26],
  o1 28 (.fieldAddr 2 (.t 1)) [],
  o1 29 (.load none (.t 28)) [28],
  o1 30 (.fieldAddr 3 (.t 1)) [],
  o1 31 (.load none (.t 30)) [30],
  o1 32 (.build [(.int .u8 0), (.int .u8 0), (.int .u32 0), (.list 1 ⟨true, true, false⟩ [])] [(0, 1, (.t 25)), (1, 1, (.t 27)), (2, 1, (.t 29)), (3, 1, (.t 31))]) [25, 27, 29, 31],
  o1 33 (.call 34 [(.t 32)]) [32],
  o1 23 (.mv (.t 33)) [33],
  o1 34 (.extract 0 (.t 23)) [],
  o1 35 (.extract 1 (.t 23)) [23],
  o1 5 (.mv (.t 34)) [34],
  o1 6 (.mv (.t 35)) [35]]
@[reducible] def fOpR_r5 : List (DOper × List Nat) := [
  o1 36 (.mv (.t 6)) [6],
  o1 37 (.un .not (.t 36)) [36]]
@[reducible] def fOpR_r6 : List (DOper × List Nat) := [
  o1 38 (.mv (.t 4)) [4],
  o1 39 (.bin false .eql (.t 38) (.k (.int .i64 1))) [38],
  o1 40 (.mv (.t 39)) [39],
  (⟨⟨(some 41), (some (40, true)), .mv (.t 3)⟩, 0, []⟩, [3]),
  (⟨⟨(some 42), (some (40, true)), .len true (.t 41)⟩, 0, []⟩, [41]),
  (⟨⟨(some 43), (some (40, true)), .bin false .eql (.t 42) (.k (.int .i64 0))⟩, 0, []⟩, [42]),
  o1 44 (.pick (.t 40) (.t 43) (.k (.bool false))) [40, 43],
  o1 2 (.mv (.t 44)) [44]]
@[reducible] def fOpR_k1 : KCode := (.keep [3, 4] (.seq (.reg fOpR_r6) .ret))
@[reducible] def fOpR_r7 : List (DOper × List Nat) := [
  o1 46 (.mv (.t 3)) [],
  o1 47 (.call 30 [(.t 46)]) [46],
  o1 45 (.mv (.t 47)) [47],
  o1 48 (.extract 0 (.t 45)) [],
  o1 49 (.extract 1 (.t 45)) [45],
  o1 7 (.alloc 69 [(.int .u8 0), (.int .u8 0), (.int .u32 0), (.list 1 ⟨true, true, false⟩ [])]) [],
  (⟨⟨none, none, .store 4 (.t 7) (.t 48)⟩, 0, []⟩, [48]),
  o1 8 (.mv (.t 49)) [49]]
@[reducible] def fOpR_r8 : List (DOper × List Nat) := [
  o1 50 (.mv (.t 4)) [4],
  o1 51 (.bin false .eql (.t 50) (.k (.int .i64 0))) [50],
  o1 52 (.mv (.t 51)) [51],
  (⟨⟨(some 53), (some (52, true)), .mv (.t 3)⟩, 0, []⟩, [3]),
  (⟨⟨(some 54), (some (52, true)), .toStr (.t 53)⟩, 0, []⟩, [53]),
  (⟨⟨(some 55), (some (52, true)), .mv (.t 5)⟩, 0, []⟩, [5]),
  (⟨⟨(some 56), (some (52, true)), .toStr (.t 55)⟩, 0, []⟩, [55]),
  (⟨⟨(some 57), (some (52, true)), .bin false .eql (.t 54) (.t 56)⟩, 0, []⟩, [54, 56]),
  o1 58 (.pick (.t 52) (.t 57) (.k (.bool false))) [52, 57],
  o1 59 (.mv (.t 58)) [58],
  (⟨⟨(some 60), (some (59, true)), .mv (.t 8)⟩, 0, []⟩, [8]),
  (⟨⟨(some 61), (some (59, true)), .bin false .eql (.t 60) (.k (.int .i64 0))⟩, 0, []⟩, [60]),
  o1 62 (.pick (.t 59) (.t 61) (.k (.bool false))) [59, 61],
  o1 63 (.mv (.t 62)) [62],
  (⟨⟨(some 64), (some (63, true)), .load (some 4) (.t 1)⟩, 0, []⟩, [1]),
  (⟨⟨(some 65), (some (63, true)), .fieldAddr 0 (.t 7)⟩, 0, []⟩, []),
  (⟨⟨(some 66), (some (63, true)), .load none (.t 65)⟩, 0, []⟩, [65]),
  (⟨⟨(some 67), (some (63, true)), .fieldAddr 1 (.t 7)⟩, 0, []⟩, []),
  (⟨⟨(some 68), (some (63, true)), .load none (.t 67)⟩, 0, []⟩, [67]),
  (⟨⟨(some 69), (some (63, true)), .fieldAddr 2 (.t 7)⟩, 0, []⟩, []),
  (⟨⟨(some 70), (some (63, true)), .load none (.t 69)⟩, 0, []⟩, [69]),
  (⟨⟨(some 71), (some (63, true)), .fieldAddr 3 (.t 7)⟩, 0, []⟩, [7]),
  (⟨⟨(some 72), (some (63, true)), .load none (.t 71)⟩, 0, []⟩, [71]),
  (⟨⟨(some 73), (some (63, true)), .build [(.int .u8 0), (.int .u8 0), (.int .u32 0), (.list 1 ⟨true, true, false⟩ [])] [(0, 1, (.t 66)), (1, 1, (.t 68)), (2, 1, (.t 70)), (3, 1, (.t 72))]⟩, 0, []⟩, [66, 68, 70, 72]),
  (⟨⟨(some 74), (some (63, true)), .call 32 [(.t 64), (.t 73)]⟩, 0, []⟩, [64, 73]),
  o1 75 (.pick (.t 63) (.t 74) (.k (.bool false))) [63, 74],
  o1 2 (.mv (.t 75)) [75]]
/-- bosun/bosunlaw16.OpcodeRequests -/
@[reducible] def fOpR : KCode := (.seq (.reg fOpR_r0) (.seq (.seq (.reg fOpR_r1) (.cond (.t 16) fOpR_k0 (.kill [16] .skip))) (.keep [1] (.seq (.reg fOpR_r3) (.seq (.reg fOpR_r4) (.seq (.seq (.reg fOpR_r5) (.cond (.t 37) fOpR_k1 (.kill [37] .skip))) (.keep [1, 3, 4, 5] (.seq (.reg fOpR_r7) (.seq (.reg fOpR_r8) .ret)))))))))
@[reducible] def fOpR_rs : List IRes := [.tmp 2]
theorem fOpR_low : lowFunc Try.prog 10 [] [] = some ⟨fOpR.bare, fOpR_rs, 76⟩ := by kernel_rfl

@[reducible] def fOpA_r0 : List (DOper × List Nat) := [
  o1 3 (.box 44 (.t 0)) [0],
  o1 6 (.mv (.k (.bool false))) [6]]
@[reducible] def fOpA_r1 : List (DOper × List Nat) := [
  o1 16 (.call 18 []) [],
  o1 17 (.un .not (.t 16)) [16],
  o1 18 (.mv (.t 17)) [17],
  (⟨⟨(some 19), (some (18, false)), .fieldAddr 2 (.t 3)⟩, 0, []⟩, []),
  (⟨⟨(some 20), (some (18, false)), .load none (.t 19)⟩, 0, []⟩, [19]),
  (⟨⟨(some 21), (some (18, false)), .len true (.t 20)⟩, 0, []⟩, [20]),
  (⟨⟨(some 22), (some (18, false)), .bin false .gtr (.t 21) (.k (.int .i64 300))⟩, 0, []⟩, [21]),
  o1 23 (.pick (.t 18) (.k (.bool true)) (.t 22)) [18, 22],
  o1 24 (.mv (.t 23)) [23],
  (⟨⟨(some 25), (some (24, false)), .mv (.t 1)⟩, 0, []⟩, []),
  (⟨⟨(some 26), (some (24, false)), .len true (.t 25)⟩, 0, []⟩, [25]),
  (⟨⟨(some 27), (some (24, false)), .bin false .gtr (.t 26) (.k (.int .i64 300))⟩, 0, []⟩, [26]),
  o1 28 (.pick (.t 24) (.k (.bool true)) (.t 27)) [24, 27],
  o1 29 (.mv (.t 28)) [28],
  (⟨⟨(some 30), (some (29, false)), .mv (.t 2)⟩, 0, []⟩, []),
  (⟨⟨(some 31), (some (29, false)), .len true (.t 30)⟩, 0, []⟩, [30]),
  (⟨⟨(some 32), (some (29, false)), .bin false .gtr (.t 31) (.k (.int .i64 50))⟩, 0, []⟩, [31]),
  o1 33 (.pick (.t 29) (.k (.bool true)) (.t 32)) [29, 32]]
@[reducible] def fOpA_r2 : List (DOper × List Nat) := [
  o1 34 (.call 18 []) [],
  o1 6 (.mv (.t 34)) [34]]
@[reducible] def fOpA_k0 : KCode := (.keep [] (.seq (.reg fOpA_r2) .ret))
@[reducible] def fOpA_r3 : List (DOper × List Nat) := [
  o1 35 (.load (some 3) (.t 3)) [],
  o1 36 (.call 19 [(.t 35)]) [35],
  o1 7 (.mv (.t 36)) [36]]
@[reducible] def fOpA_r4 : List (DOper × List Nat) := [
  o1 37 (.mv (.t 7)) [],
  o1 38 (.toStr (.t 37)) [37],
  o1 39 (.fieldAddr 0 (.t 3)) [],
  o1 40 (.load none (.t 39)) [39],
  o1 41 (.fieldAddr 1 (.t 3)) [],
  o1 42 (.load none (.t 41)) [41],
  o1 43 (.buildF 5 1 [(.int .u8 0), (.int .u8 0)] [(0, 1, (.t 40)), (1, 1, (.t 42))]) [40, 42],
  o1 44 (.toStr (.t 43)) [43],
  o1 45 (.bin false .add (.k (.str [96])) (.t 44)) [44],
  o1 46 (.fieldAddr 2 (.t 3)) [],
  o1 47 (.load none (.t 46)) [46],
  o1 48 (.toStr (.t 47)) [47],
  o1 49 (.bin false .add (.t 45) (.t 48)) [45, 48],
  o1 50 (.bin false .neq (.t 38) (.t 49)) [38, 49]]
@[reducible] def fOpA_r5 : List (DOper × List Nat) := [
  o1 6 (.mv (.k (.bool false))) []]
@[reducible] def fOpA_k1 : KCode := (.keep [] (.seq (.reg fOpA_r5) .ret))
@[reducible] def fOpA_r6 : List (DOper × List Nat) := [
  o1 52 (.mv (.t 7)) [7],
  o1 53 (.call 20 [(.t 52)]) [52],
  o1 51 (.mv (.t 53)) [53],
  o1 54 (.extract 0 (.t 51)) [],
  o1 55 (.extract 1 (.t 51)) [51],
  o1 8 (.alloc 44 [(.int .u8 0), (.int .u8 0), (.list 1 ⟨true, true, false⟩ [])]) [],
  (⟨⟨none, none, .store 3 (.t 8) (.t 54)⟩, 0, []⟩, [54]),
  o1 9 (.mv (.t 55)) [55]]
@[reducible] def fOpA_r7 : List (DOper × List Nat) := [
  o1 57 (.mv (.t 1)) [],
  o1 58 (.call 20 [(.t 57)]) [57],
  o1 56 (.mv (.t 58)) [58],
  o1 59 (.extract 0 (.t 56)) [],
  o1 60 (.extract 1 (.t 56)) [56],
  o1 10 (.alloc 44 [(.int .u8 0), (.int .u8 0), (.list 1 ⟨true, true, false⟩ [])]) [],
  (⟨⟨none, none, .store 3 (.t 10) (.t 59)⟩, 0, []⟩, [59]),
  o1 11 (.mv (.t 60)) [60]]
@[reducible] def fOpA_r8 : List (DOper × List Nat) := [
  o1 12 (.mv (.k (.int .i64 0))) []]
@[reducible] def fOpA_r9 : List (DOper × List Nat) := [
  o1 62 (.mv (.t 1)) [],
  o1 63 (.len true (.t 62)) [62],
  o1 64 (.bin false .lss (.t 63) (.k (.int .i64 3))) [63],
  o1 61 (.mv (.t 64)) [64]]
@[reducible] def fOpA_r10 : List (DOper × List Nat) := [
  o1 12 (.mv (.k (.int .i64 18))) []]
@[reducible] def fOpA_r11 : List (DOper × List Nat) := [
  o1 66 (.mv (.t 1)) [],
  o1 67 (.idxS 1 (.t 66) (.k (.int .i64 0))) [66],
  o1 68 (.load none (.t 67)) [67],
  o1 69 (.bin false .neq (.t 68) (.k (.int .u8 96))) [68],
  o1 65 (.mv (.t 69)) [69]]
@[reducible] def fOpA_r12 : List (DOper × List Nat) := [
  o1 12 (.mv (.k (.int .i64 7))) []]
@[reducible] def fOpA_k2 : KCode := (.kill [12, 65] (.reg fOpA_r12))
@[reducible] def fOpA_k3 : KCode := (.kill [12, 61] (.reg fOpA_r10))
@[reducible] def fOpA_k4 : KCode := (.kill [61] (.seq (.reg fOpA_r11) (.cond (.t 65) fOpA_k2 (.kill [65] .skip))))
@[reducible] def fOpA_r13 : List (DOper × List Nat) := [
  o1 70 (.mv (.t 11)) [],
  o2 71 1 (.mv (.t 12)) [12],
  o2 72 2 (.bin false .neq (.t 70) (.t 71)) [70, 71],
  o2 73 3 (.mv (.t 72)) [72],
  (⟨⟨(some 74), (some (73, false)), .mv (.t 11)⟩, 4, []⟩, []),
  (⟨⟨(some 75), (some (73, false)), .bin false .eql (.t 74) (.k (.int .i64 0))⟩, 5, []⟩, [74]),
  (⟨⟨(some 76), (some (73, false)), .mv (.t 75)⟩, 6, []⟩, [75]),
  (⟨⟨(some 77), (some (76, true)), .load (some 3) (.t 10)⟩, 7, []⟩, []),
  (⟨⟨(some 80), (some (76, true)), .mv (.t 1)⟩, 10, []⟩, [1]),
  (⟨⟨(some 81), (some (76, true)), .toStr (.t 80)⟩, 11, []⟩, [80]),
  (⟨⟨(some 78), (some (76, true)), .call 19 [(.t 77)]⟩, 8, [11]⟩, [77]),
  (⟨⟨(some 79), (some (76, true)), .toStr (.t 78)⟩, 9, []⟩, [78]),
  (⟨⟨(some 82), (some (76, true)), .bin false .neq (.t 79) (.t 81)⟩, 12, []⟩, [79, 81]),
  (⟨⟨(some 83), (some (73, false)), .pick (.t 76) (.t 82) (.k (.bool false))⟩, 13, []⟩, [76, 82]),
  o2 84 14 (.pick (.t 73) (.k (.bool true)) (.t 83)) [73, 83],
  o2 85 15 (.mv (.t 84)) [84],
  (⟨⟨(some 86), (some (85, false)), .mv (.t 11)⟩, 16, []⟩, [11]),
  (⟨⟨(some 87), (some (85, false)), .bin false .neq (.t 86) (.k (.int .i64 0))⟩, 17, []⟩, [86]),
  (⟨⟨(some 88), (some (85, false)), .mv (.t 87)⟩, 18, []⟩, [87]),
  (⟨⟨(some 89), (some (88, true)), .fieldAddr 0 (.t 10)⟩, 19, []⟩, []),
  (⟨⟨(some 90), (some (88, true)), .load none (.t 89)⟩, 20, []⟩, [89]),
  (⟨⟨(some 91), (some (88, true)), .bin false .neq (.t 90) (.k (.int .u8 0))⟩, 21, []⟩, [90]),
  (⟨⟨(some 92), (some (88, true)), .mv (.t 91)⟩, 22, []⟩, [91]),
  (⟨⟨(some 93), (some (92, false)), .fieldAddr 1 (.t 10)⟩, 23, []⟩, []),
  (⟨⟨(some 94), (some (92, false)), .load none (.t 93)⟩, 24, []⟩, [93]),
  (⟨⟨(some 95), (some (92, false)), .bin false .neq (.t 94) (.k (.int .u8 0))⟩, 25, []⟩, [94]),
  (⟨⟨(some 96), (some (88, true)), .pick (.t 92) (.k (.bool true)) (.t 95)⟩, 26, []⟩, [92, 95]),
  (⟨⟨(some 97), (some (88, true)), .mv (.t 96)⟩, 27, []⟩, [96]),
  (⟨⟨(some 98), (some (97, false)), .fieldAddr 2 (.t 10)⟩, 28, []⟩, [10]),
  (⟨⟨(some 99), (some (97, false)), .load none (.t 98)⟩, 29, []⟩, [98]),
  (⟨⟨(some 100), (some (97, false)), .len true (.t 99)⟩, 30, []⟩, [99]),
  (⟨⟨(some 101), (some (97, false)), .bin false .neq (.t 100) (.k (.int .i64 0))⟩, 31, []⟩, [100]),
  (⟨⟨(some 102), (some (88, true)), .pick (.t 97) (.k (.bool true)) (.t 101)⟩, 32, []⟩, [97, 101]),
  (⟨⟨(some 103), (some (85, false)), .pick (.t 88) (.t 102) (.k (.bool false))⟩, 33, []⟩, [88, 102]),
  o2 104 34 (.pick (.t 85) (.k (.bool true)) (.t 103)) [85, 103]]
@[reducible] def fOpA_r14 : List (DOper × List Nat) := [
  o1 6 (.mv (.k (.bool false))) []]
@[reducible] def fOpA_k5 : KCode := (.keep [] (.seq (.reg fOpA_r14) .ret))
@[reducible] def fOpA_r15 : List (DOper × List Nat) := [
  o1 13 (.mv (.k (.list 1 ⟨true, true, false⟩ []))) []]
@[reducible] def fOpA_r16 : List (DOper × List Nat) := [
  o1 105 (.mv (.t 2)) [],
  o1 106 (.len true (.t 105)) [],
  o1 107 (.mv (.k (.int .i64 0))) []]
@[reducible] def fOpA_r17 : List (DOper × List Nat) := [
  o1 108 (.bin false .lss (.t 107) (.t 106)) []]
@[reducible] def fOpA_k6 : KCode := (.kill [105, 106, 107, 108] (.exit 1))
@[reducible] def fOpA_r18 : List (DOper × List Nat) := [
  o1 109 (.idxS 1 (.t 105) (.t 107)) [],
  o1 110 (.load none (.t 109)) [109],
  o1 15 (.mv (.t 110)) [110]]
@[reducible] def fOpA_r19 : List (DOper × List Nat) := [
  o1 111 (.mv (.t 13)) [13],
  o1 112 (.mv (.t 15)) [15],
  o1 113 (.call 21 [(.t 112)]) [112],
  o1 114 (.appO 5 1 1 (.t 111) (.t 113)) [111, 113],
  o1 13 (.mv (.t 114)) [114]]
@[reducible] def fOpA_r20 : List (DOper × List Nat) := [
  o1 115 (.bin false .add (.t 107) (.k (.int .i64 1))) [107],
  o1 107 (.mv (.t 115)) [115]]
/-- live: [2, 3, 8, 9, 13, 105, 106, 107] -/
@[reducible] def fOpA_l7 : KCode := (.seq (.reg fOpA_r17) (.seq (.cond (.t 108) (.kill [108] .skip) fOpA_k6) (.kill [108] (.seq (.block 2 (.seq (.reg fOpA_r18) (.reg fOpA_r19))) (.kill [15, 109, 110, 111, 112, 113, 114] (.reg fOpA_r20))))))
@[reducible] def fOpA_r21 : List (DOper × List Nat) := [
  o1 116 (.mv (.t 9)) [9],
  o2 117 1 (.bin false .eql (.t 116) (.k (.int .i64 0))) [116],
  o2 118 2 (.mv (.t 117)) [117],
  (⟨⟨(some 119), (some (118, true)), .fieldAddr 0 (.t 8)⟩, 3, []⟩, []),
  (⟨⟨(some 120), (some (118, true)), .load none (.t 119)⟩, 4, []⟩, [119]),
  (⟨⟨(some 121), (some (118, true)), .fieldAddr 0 (.t 3)⟩, 5, []⟩, []),
  (⟨⟨(some 122), (some (118, true)), .load none (.t 121)⟩, 6, []⟩, [121]),
  (⟨⟨(some 123), (some (118, true)), .bin false .eql (.t 120) (.t 122)⟩, 7, []⟩, [120, 122]),
  o2 124 8 (.pick (.t 118) (.t 123) (.k (.bool false))) [118, 123],
  o2 125 9 (.mv (.t 124)) [124],
  (⟨⟨(some 126), (some (125, true)), .fieldAddr 1 (.t 8)⟩, 10, []⟩, []),
  (⟨⟨(some 127), (some (125, true)), .load none (.t 126)⟩, 11, []⟩, [126]),
  (⟨⟨(some 128), (some (125, true)), .fieldAddr 1 (.t 3)⟩, 12, []⟩, []),
  (⟨⟨(some 129), (some (125, true)), .load none (.t 128)⟩, 13, []⟩, [128]),
  (⟨⟨(some 130), (some (125, true)), .bin false .eql (.t 127) (.t 129)⟩, 14, []⟩, [127, 129]),
  o2 131 15 (.pick (.t 125) (.t 130) (.k (.bool false))) [125, 130],
  o2 132 16 (.mv (.t 131)) [131],
  (⟨⟨(some 133), (some (132, true)), .fieldAddr 2 (.t 8)⟩, 17, []⟩, [8]),
  (⟨⟨(some 134), (some (132, true)), .load none (.t 133)⟩, 18, []⟩, [133]),
  (⟨⟨(some 135), (some (132, true)), .toStr (.t 134)⟩, 19, []⟩, [134]),
  (⟨⟨(some 136), (some (132, true)), .fieldAddr 2 (.t 3)⟩, 20, []⟩, [3]),
  (⟨⟨(some 137), (some (132, true)), .load none (.t 136)⟩, 21, []⟩, [136]),
  (⟨⟨(some 138), (some (132, true)), .toStr (.t 137)⟩, 22, []⟩, [137]),
  (⟨⟨(some 139), (some (132, true)), .bin false .eql (.t 135) (.t 138)⟩, 23, []⟩, [135, 138]),
  o2 140 24 (.pick (.t 132) (.t 139) (.k (.bool false))) [132, 139],
  o2 141 25 (.mv (.t 140)) [140],
  (⟨⟨(some 142), (some (141, true)), .mv (.t 2)⟩, 26, []⟩, [2]),
  (⟨⟨(some 145), (some (141, true)), .mv (.t 13)⟩, 29, []⟩, [13]),
  (⟨⟨(some 146), (some (141, true)), .toStr (.t 145)⟩, 30, []⟩, [145]),
  (⟨⟨(some 143), (some (141, true)), .call 22 [(.t 142)]⟩, 27, [30]⟩, [142]),
  (⟨⟨(some 144), (some (141, true)), .toStr (.t 143)⟩, 28, []⟩, [143]),
  (⟨⟨(some 147), (some (141, true)), .bin false .eql (.t 144) (.t 146)⟩, 31, []⟩, [144, 146]),
  o2 148 32 (.pick (.t 141) (.t 147) (.k (.bool false))) [141, 147],
  o2 6 33 (.mv (.t 148)) [148]]
/-- bosun/bosunlaw16.OpcodeAnswers -/
@[reducible] def fOpA : KCode := (.seq (.reg fOpA_r0) (.seq (.seq (.reg fOpA_r1) (.cond (.t 33) fOpA_k0 (.kill [33] .skip))) (.keep [1, 2, 3] (.seq (.reg fOpA_r3) (.seq (.seq (.reg fOpA_r4) (.cond (.t 50) fOpA_k1 (.kill [50] .skip))) (.keep [1, 2, 3, 7] (.seq (.reg fOpA_r6) (.seq (.reg fOpA_r7) (.seq (.reg fOpA_r8) (.seq (.block 0 (.seq (.reg fOpA_r9) (.cond (.t 61) fOpA_k3 fOpA_k4))) (.keep [1, 2, 3, 8, 9, 10, 11, 12] (.seq (.seq (.draw fOpA_r13) (.cond (.t 104) fOpA_k5 (.kill [104] .skip))) (.keep [2, 3, 8, 9] (.seq (.reg fOpA_r15) (.seq (.seq (.reg fOpA_r16) (.block 1 (.loop fOpA_l7))) (.keep [2, 3, 8, 9, 13] (.seq (.draw fOpA_r21) .ret)))))))))))))))))
@[reducible] def fOpA_rs : List IRes := [.tmp 6]
theorem fOpA_low : lowFunc Try.prog 5 [] [(13, [0, 1, 2, 3, 4, 5, 6, 7, 10, 11, 8, 9, 12, 13, 14, 15, 16, 17, 18, 19, 20, 21, 22, 23, 24, 25, 26, 27, 28, 29, 30, 31, 32, 33, 34]), (21, [0, 1, 2, 3, 4, 5, 6, 7, 8, 9, 10, 11, 12, 13, 14, 15, 16, 17, 18, 19, 20, 21, 22, 23, 24, 25, 26, 29, 30, 27, 28, 31, 32, 33])] = some ⟨fOpA.bare, fOpA_rs, 149⟩ := by kernel_rfl

end Go.Proofs.Ytlffcidcopibmaa
