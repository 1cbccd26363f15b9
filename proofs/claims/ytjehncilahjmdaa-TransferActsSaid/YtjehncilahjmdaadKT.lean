/-
  Codes of functions.
-/
import Derived.Test.YtjehncilahjmdaadB1
import Derived.Test.YtjehncilahjmdaaRows
set_option linter.unusedSimpArgs false
set_option linter.unnecessarySimpa false
set_option linter.unusedVariables false
set_option linter.unusedSectionVars false
namespace Go.Proofs.Ytjehncilahjmdaa
open Go.Fw
@[reducible] def fTrNew_r0 : List (DOper × List Nat) := [
  o1 2 (.mv (.k .nil)) [2],
  o1 3 (.mv (.k (.int .i64 0))) [3]]
@[reducible] def fTrNew_r1 : List (DOper × List Nat) := [
  o1 7 (.mv (.t 0)) [],
  o1 8 (.call 21 [(.t 7)]) [7],
  o1 9 (.bin false .lss (.t 8) (.k (.int .i64 8704))) [8]]
@[reducible] def fTrNew_r2 : List (DOper × List Nat) := [
  o1 2 (.mv (.k .nil)) [],
  o1 3 (.mv (.k (.int .i64 1))) []]
@[reducible] def fTrNew_k0 : KCode := (.keep [] (.seq (.reg fTrNew_r2) .ret))
@[reducible] def fTrNew_r3 : List (DOper × List Nat) := [
  o1 11 (.mv (.t 0)) [],
  o1 12 (.call 25 [(.t 11)]) [11],
  o1 10 (.mv (.t 12)) [12],
  o1 13 (.extract 0 (.t 10)) [],
  o1 14 (.extract 1 (.t 10)) [],
  o1 15 (.extract 2 (.t 10)) [10],
  o1 4 (.alloc 42 [(.int .u32 0), (.int .u32 0), (.int .u32 0), (.int .u32 0), (.int .u8 0), (.int .u32 0), (.list 1 ⟨true, true, false⟩ [])]) [],
  (⟨⟨none, none, .store 7 (.t 4) (.t 13)⟩, 0, []⟩, [13]),
  o1 5 (.mv (.t 14)) [5, 14],
  o1 6 (.mv (.t 15)) [15]]
@[reducible] def fTrNew_r4 : List (DOper × List Nat) := [
  o1 16 (.mv (.t 6)) [],
  o1 17 (.bin false .neq (.t 16) (.k (.int .i64 0))) [16],
  o1 18 (.mv (.t 17)) [17],
  (⟨⟨(some 19), (some (18, true)), .mv (.t 6)⟩, 0, []⟩, []),
  (⟨⟨(some 20), (some (18, true)), .bin false .neq (.t 19) (.k (.int .i64 15))⟩, 0, []⟩, [19]),
  o1 21 (.pick (.t 18) (.t 20) (.k (.bool false))) [18, 20]]
@[reducible] def fTrNew_r5 : List (DOper × List Nat) := [
  o1 22 (.mv (.t 6)) [6],
  o1 2 (.mv (.k .nil)) [],
  o1 3 (.mv (.t 22)) [22]]
@[reducible] def fTrNew_k1 : KCode := (.keep [6] (.seq (.reg fTrNew_r5) .ret))
@[reducible] def fTrNew_r6 : List (DOper × List Nat) := [
  o1 23 (.mv (.t 0)) [0],
  o1 24 (.build [.nil, (.int .i64 0)] [(0, 1, (.t 23)), (1, 1, (.k (.int .i64 18)))]) [23],
  o1 25 (.load (some 7) (.t 4)) [4],
  o1 26 (.build [.nil, (.int .i64 0), (.int .u32 0), (.int .u32 0), (.int .u32 0), (.int .u32 0), (.int .u8 0), (.int .u32 0), (.list 1 ⟨true, true, false⟩ [])] [(0, 2, (.t 24)), (2, 7, (.t 25))]) [24, 25],
  o1 27 (.box 116 (.t 26)) [26],
  o1 2 (.mv (.t 27)) [27],
  o1 3 (.mv (.k (.int .i64 0))) []]
/-- bosun/transfer.New -/
@[reducible] def fTrNew : KCode := (.seq (.reg fTrNew_r0) (.seq (.seq (.reg fTrNew_r1) (.cond (.t 9) fTrNew_k0 (.kill [9] .skip))) (.keep [0] (.seq (.reg fTrNew_r3) (.seq (.seq (.reg fTrNew_r4) (.cond (.t 21) fTrNew_k1 (.kill [6, 21] .skip))) (.keep [0, 4] (.seq (.reg fTrNew_r6) .ret)))))))
@[reducible] def fTrNew_rs : List IRes := [.tmp 2, .tmp 3]
theorem fTrNew_low : lowFunc Try.prog 39 [] [] = some ⟨fTrNew.bare, fTrNew_rs, 28⟩ := by kernel_rfl

@[reducible] def fTrLoad_r0 : List (DOper × List Nat) := [
  o1 2 (.mv (.k (.list 1 ⟨true, true, false⟩ []))) [2],
  o1 3 (.mv (.k (.int .i64 0))) [3]]
@[reducible] def fTrLoad_r1 : List (DOper × List Nat) := [
  o1 4 (.mv (.t 0)) [],
  o1 5 (.nilCheck (.t 4)) [4],
  o1 6 (.fieldAddr 2 (.t 5)) [5],
  o1 7 (.fieldAddr 4 (.t 6)) [6],
  o1 8 (.load none (.t 7)) [7],
  o1 9 (.bin false .neq (.t 8) (.k (.int .u8 1))) [8]]
@[reducible] def fTrLoad_r2 : List (DOper × List Nat) := [
  o1 2 (.mv (.k (.list 1 ⟨true, true, false⟩ []))) [],
  o1 3 (.mv (.k (.int .i64 0))) []]
@[reducible] def fTrLoad_k0 : KCode := (.keep [] (.seq (.reg fTrLoad_r2) .ret))
@[reducible] def fTrLoad_r3 : List (DOper × List Nat) := [
  o1 10 (.mv (.t 0)) [],
  o2 11 1 (.nilCheck (.t 10)) [10],
  o2 12 2 (.fieldAddr 2 (.t 11)) [11],
  o2 13 3 (.fieldAddr 6 (.t 12)) [12],
  o2 14 4 (.load none (.t 13)) [13],
  o2 16 6 (.mv (.t 0)) [0],
  o2 17 7 (.nilCheck (.t 16)) [16],
  o2 18 8 (.fieldAddr 2 (.t 17)) [17],
  o2 19 9 (.fieldAddr 5 (.t 18)) [18],
  o2 20 10 (.load none (.t 19)) [19],
  o2 21 11 (.convI .i64 (.t 20)) [20],
  (⟨⟨(some 15), none, .call 55 [(.t 14)]⟩, 5, [10]⟩, [14]),
  o2 2 12 (.mv (.t 15)) [15],
  o2 3 13 (.mv (.t 21)) [21]]
/-- (*bosun/transfer.Keeper).Load -/
@[reducible] def fTrLoad : KCode := (.seq (.reg fTrLoad_r0) (.seq (.seq (.reg fTrLoad_r1) (.cond (.t 9) fTrLoad_k0 (.kill [9] .skip))) (.keep [0] (.seq (.draw fTrLoad_r3) .ret))))
@[reducible] def fTrLoad_rs : List IRes := [.tmp 2, .tmp 3]
theorem fTrLoad_low : lowFunc Try.prog 40 [] [(3, [0, 1, 2, 3, 4, 6, 7, 8, 9, 10, 11, 5, 12, 13])] = some ⟨fTrLoad.bare, fTrLoad_rs, 22⟩ := by kernel_rfl

@[reducible] def fTrRecord_r0 : List (DOper × List Nat) := [
  o1 2 (.alloc 42 [(.int .u32 0), (.int .u32 0), (.int .u32 0), (.int .u32 0), (.int .u8 0), (.int .u32 0), (.list 1 ⟨true, true, false⟩ [])]) []]
@[reducible] def fTrRecord_r1 : List (DOper × List Nat) := [
  o1 4 (.mv (.t 0)) [0],
  o1 5 (.nilCheck (.t 4)) [4],
  o1 6 (.fieldAddr 2 (.t 5)) [5],
  o1 7 (.load (some 7) (.t 6)) [6],
  o1 3 (.alloc 42 [(.int .u32 0), (.int .u32 0), (.int .u32 0), (.int .u32 0), (.int .u8 0), (.int .u32 0), (.list 1 ⟨true, true, false⟩ [])]) [],
  (⟨⟨none, none, .store 7 (.t 3) (.t 7)⟩, 0, []⟩, [7])]
@[reducible] def fTrRecord_r2 : List (DOper × List Nat) := [
  o1 8 (.fieldAddr 6 (.t 3)) [],
  o1 9 (.load none (.t 8)) [8],
  o1 10 (.call 55 [(.t 9)]) [9],
  o1 11 (.fieldAddr 6 (.t 3)) [],
  (⟨⟨none, none, .store 1 (.t 11) (.t 10)⟩, 0, []⟩, [10, 11])]
@[reducible] def fTrRecord_r3 : List (DOper × List Nat) := [
  o1 12 (.load (some 7) (.t 3)) [3],
  (⟨⟨none, none, .store 7 (.t 2) (.t 12)⟩, 0, []⟩, [12])]
/-- (*bosun/transfer.Keeper).Record -/
@[reducible] def fTrRecord : KCode := (.seq (.reg fTrRecord_r0) (.seq (.reg fTrRecord_r1) (.seq (.reg fTrRecord_r2) (.seq (.reg fTrRecord_r3) .ret))))
@[reducible] def fTrRecord_rs : List IRes := [.cell 2 (some 7)]
theorem fTrRecord_low : lowFunc Try.prog 41 [] [] = some ⟨fTrRecord.bare, fTrRecord_rs, 13⟩ := by kernel_rfl

@[reducible] def fTrPut_r0 : List (DOper × List Nat) := [
  o1 4 (.mv (.k (.int .i64 0))) [4]]
@[reducible] def fTrPut_r1 : List (DOper × List Nat) := [
  o1 8 (.mv (.t 0)) [],
  o1 9 (.nilCheck (.t 8)) [8],
  o1 10 (.fieldAddr 2 (.t 9)) [9],
  o1 11 (.fieldAddr 5 (.t 10)) [10],
  o1 12 (.load none (.t 11)) [11],
  o1 13 (.convI .i64 (.t 12)) [12],
  o1 5 (.mv (.t 13)) [13]]
@[reducible] def fTrPut_r2 : List (DOper × List Nat) := [
  o1 15 (.mv (.t 0)) [],
  o1 16 (.nilCheck (.t 15)) [15],
  o1 17 (.fieldAddr 2 (.t 16)) [16],
  o1 18 (.fieldAddr 4 (.t 17)) [17],
  o1 19 (.load none (.t 18)) [18],
  o1 20 (.bin false .neq (.t 19) (.k (.int .u8 1))) [19],
  o1 14 (.mv (.t 20)) [20]]
@[reducible] def fTrPut_r3 : List (DOper × List Nat) := [
  o1 4 (.mv (.k (.int .i64 16))) []]
@[reducible] def fTrPut_r4 : List (DOper × List Nat) := [
  o1 22 (.mv (.t 5)) [],
  o1 23 (.bin false .rem (.t 22) (.k (.int .i64 256))) [22],
  o1 24 (.bin false .neq (.t 23) (.k (.int .i64 0))) [23],
  o1 25 (.mv (.t 24)) [24],
  (⟨⟨(some 26), (some (25, false)), .mv (.t 1)⟩, 0, []⟩, []),
  (⟨⟨(some 27), (some (25, false)), .len true (.t 26)⟩, 0, []⟩, [26]),
  (⟨⟨(some 28), (some (25, false)), .mv (.t 5)⟩, 0, []⟩, []),
  (⟨⟨(some 29), (some (25, false)), .bin false .sub (.k (.int .i64 4096)) (.t 28)⟩, 0, []⟩, [28]),
  (⟨⟨(some 30), (some (25, false)), .bin false .gtr (.t 27) (.t 29)⟩, 0, []⟩, [27, 29]),
  o1 31 (.pick (.t 25) (.k (.bool true)) (.t 30)) [25, 30],
  o1 21 (.mv (.t 31)) [31]]
@[reducible] def fTrPut_r5 : List (DOper × List Nat) := [
  o1 4 (.mv (.k (.int .i64 12))) []]
@[reducible] def fTrPut_k0 : KCode := (.keep [] (.seq (.reg fTrPut_r5) .ret))
@[reducible] def fTrPut_k1 : KCode := (.keep [] (.seq (.reg fTrPut_r3) .ret))
@[reducible] def fTrPut_k2 : KCode := (.kill [14] (.seq (.reg fTrPut_r4) (.cond (.t 21) fTrPut_k0 (.kill [21] .skip))))
@[reducible] def fTrPut_r6 : List (DOper × List Nat) := [
  o1 32 (.mv (.t 0)) [],
  o1 33 (.nilCheck (.t 32)) [32],
  o1 34 (.fieldAddr 0 (.t 33)) [33],
  o1 35 (.load (some 2) (.t 34)) [34],
  o1 36 (.mv (.t 5)) [],
  o1 37 (.bin false .quo (.t 36) (.k (.int .i64 256))) [36],
  o1 38 (.mv (.t 5)) [],
  o1 39 (.mv (.t 1)) [],
  o1 40 (.len true (.t 39)) [39],
  o1 41 (.bin false .add (.t 38) (.t 40)) [38, 40],
  o1 42 (.bin false .add (.t 41) (.k (.int .i64 256))) [41],
  o1 43 (.bin false .sub (.t 42) (.k (.int .i64 1))) [42],
  o1 44 (.bin false .quo (.t 43) (.k (.int .i64 256))) [43],
  o1 45 (.call 36 [(.t 35), (.t 37), (.t 44)]) [35, 37, 44],
  o1 6 (.mv (.t 45)) [45]]
@[reducible] def fTrPut_r7 : List (DOper × List Nat) := [
  o1 46 (.mv (.t 6)) [],
  o1 47 (.bin false .neq (.t 46) (.k (.int .i64 0))) [46]]
@[reducible] def fTrPut_r8 : List (DOper × List Nat) := [
  o1 48 (.mv (.t 6)) [6],
  o1 4 (.mv (.t 48)) [48]]
@[reducible] def fTrPut_k3 : KCode := (.keep [6] (.seq (.reg fTrPut_r8) .ret))
@[reducible] def fTrPut_r9 : List (DOper × List Nat) := [
  o1 49 (.mv (.t 0)) [],
  o1 50 (.nilCheck (.t 49)) [49],
  o1 51 (.fieldAddr 0 (.t 50)) [50],
  o1 52 (.load (some 2) (.t 51)) [51],
  o1 53 (.mv (.t 5)) [],
  o1 54 (.mv (.t 1)) [],
  o1 55 (.buildF 22 1 [(.list 1 ⟨true, true, false⟩ [])] [(0, 1, (.t 54))]) [54],
  o1 56 (.call 37 [(.t 52), (.t 53), (.t 55)]) [52, 53, 55],
  o1 7 (.mv (.t 56)) [56]]
@[reducible] def fTrPut_r10 : List (DOper × List Nat) := [
  o1 57 (.mv (.t 7)) [],
  o1 58 (.bin false .neq (.t 57) (.k (.int .i64 0))) [57]]
@[reducible] def fTrPut_r11 : List (DOper × List Nat) := [
  o1 59 (.mv (.t 7)) [7],
  o1 4 (.mv (.t 59)) [59]]
@[reducible] def fTrPut_k4 : KCode := (.keep [7] (.seq (.reg fTrPut_r11) .ret))
@[reducible] def fTrPut_r12 : List (DOper × List Nat) := [
  o1 60 (.mv (.t 0)) [],
  o1 61 (.mv (.t 5)) [5],
  o1 62 (.mv (.t 1)) [1],
  o1 63 (.len true (.t 62)) [62],
  o1 64 (.bin false .add (.t 61) (.t 63)) [61, 63],
  o1 65 (.mv (.t 0)) [0],
  o1 66 (.nilCheck (.t 65)) [65],
  o1 67 (.fieldAddr 2 (.t 66)) [66],
  o1 68 (.fieldAddr 6 (.t 67)) [67],
  o1 69 (.load none (.t 68)) [68],
  o1 70 (.call 71 [(.t 60), (.k (.int .u8 1)), (.t 64), (.t 69)]) [60, 64, 69],
  o1 4 (.mv (.t 70)) [70]]
/-- (*bosun/transfer.Keeper).Put -/
@[reducible] def fTrPut : KCode := (.seq (.reg fTrPut_r0) (.seq (.reg fTrPut_r1) (.seq (.block 0 (.seq (.reg fTrPut_r2) (.cond (.t 14) fTrPut_k1 fTrPut_k2))) (.keep [0, 1, 5] (.seq (.seq (.reg fTrPut_r6) (.seq (.reg fTrPut_r7) (.cond (.t 47) fTrPut_k3 (.kill [6, 47] .skip)))) (.keep [0, 1, 5] (.seq (.seq (.reg fTrPut_r9) (.seq (.reg fTrPut_r10) (.cond (.t 58) fTrPut_k4 (.kill [7, 58] .skip)))) (.keep [0, 1, 5] (.seq (.reg fTrPut_r12) .ret)))))))))
@[reducible] def fTrPut_rs : List IRes := [.tmp 4]
theorem fTrPut_low : lowFunc Try.prog 42 [] [] = some ⟨fTrPut.bare, fTrPut_rs, 71⟩ := by kernel_rfl

@[reducible] def fTrStart_r0 : List (DOper × List Nat) := [
  o1 4 (.mv (.k (.int .i64 0))) [4]]
@[reducible] def fTrStart_r1 : List (DOper × List Nat) := [
  o1 7 (.mv (.t 0)) [],
  o1 8 (.call 71 [(.t 7), (.k (.int .u8 0)), (.k (.int .i64 0)), (.k (.list 1 ⟨true, true, false⟩ []))]) [7],
  o1 5 (.mv (.t 8)) [8]]
@[reducible] def fTrStart_r2 : List (DOper × List Nat) := [
  o1 9 (.mv (.t 5)) [],
  o1 10 (.bin false .neq (.t 9) (.k (.int .i64 0))) [9]]
@[reducible] def fTrStart_r3 : List (DOper × List Nat) := [
  o1 11 (.mv (.t 5)) [5],
  o1 4 (.mv (.t 11)) [11]]
@[reducible] def fTrStart_k0 : KCode := (.keep [5] (.seq (.reg fTrStart_r3) .ret))
@[reducible] def fTrStart_r4 : List (DOper × List Nat) := [
  o1 12 (.mv (.t 0)) [],
  o1 13 (.nilCheck (.t 12)) [12],
  o1 14 (.fieldAddr 0 (.t 13)) [13],
  o1 15 (.load (some 2) (.t 14)) [14],
  o1 16 (.call 36 [(.t 15), (.k (.int .i64 0)), (.k (.int .i64 16))]) [15],
  o1 6 (.mv (.t 16)) [16]]
@[reducible] def fTrStart_r5 : List (DOper × List Nat) := [
  o1 17 (.mv (.t 6)) [],
  o1 18 (.bin false .neq (.t 17) (.k (.int .i64 0))) [17]]
@[reducible] def fTrStart_r6 : List (DOper × List Nat) := [
  o1 19 (.mv (.t 6)) [6],
  o1 4 (.mv (.t 19)) [19]]
@[reducible] def fTrStart_k1 : KCode := (.keep [6] (.seq (.reg fTrStart_r6) .ret))
@[reducible] def fTrStart_r7 : List (DOper × List Nat) := [
  o1 20 (.mv (.t 0)) [0],
  o1 21 (.mv (.t 1)) [1],
  o1 22 (.call 71 [(.t 20), (.k (.int .u8 1)), (.k (.int .i64 0)), (.t 21)]) [20, 21],
  o1 4 (.mv (.t 22)) [22]]
/-- (*bosun/transfer.Keeper).Start -/
@[reducible] def fTrStart : KCode := (.seq (.reg fTrStart_r0) (.seq (.seq (.reg fTrStart_r1) (.seq (.reg fTrStart_r2) (.cond (.t 10) fTrStart_k0 (.kill [5, 10] .skip)))) (.keep [0, 1] (.seq (.seq (.reg fTrStart_r4) (.seq (.reg fTrStart_r5) (.cond (.t 18) fTrStart_k1 (.kill [6, 18] .skip)))) (.keep [0, 1] (.seq (.reg fTrStart_r7) .ret))))))
@[reducible] def fTrStart_rs : List IRes := [.tmp 4]
theorem fTrStart_low : lowFunc Try.prog 43 [] [] = some ⟨fTrStart.bare, fTrStart_rs, 23⟩ := by kernel_rfl

@[reducible] def fTrSave_r0 : List (DOper × List Nat) := [
  o1 8 (.mv (.k (.int .i64 0))) [8]]
@[reducible] def fTrSave_r1 : List (DOper × List Nat) := [
  o1 11 (.mv (.t 0)) [],
  o1 12 (.nilCheck (.t 11)) [11],
  o1 13 (.fieldAddr 2 (.t 12)) [12],
  o1 14 (.load (some 7) (.t 13)) [13],
  o1 9 (.alloc 42 [(.int .u32 0), (.int .u32 0), (.int .u32 0), (.int .u32 0), (.int .u8 0), (.int .u32 0), (.list 1 ⟨true, true, false⟩ [])]) [],
  (⟨⟨none, none, .store 7 (.t 9) (.t 14)⟩, 0, []⟩, [14])]
@[reducible] def fTrSave_r2 : List (DOper × List Nat) := [
  o1 15 (.mv (.t 1)) [1],
  o1 16 (.mv (.t 2)) [2],
  o1 17 (.convI .u32 (.t 16)) [16],
  o1 18 (.mv (.t 3)) [3],
  o1 19 (.call 55 [(.t 18)]) [18],
  o1 20 (.fieldAddr 4 (.t 9)) [],
  (⟨⟨none, none, .store 1 (.t 20) (.t 15)⟩, 0, []⟩, [15, 20]),
  o1 21 (.fieldAddr 5 (.t 9)) [],
  (⟨⟨none, none, .store 1 (.t 21) (.t 17)⟩, 0, []⟩, [17, 21]),
  o1 22 (.fieldAddr 6 (.t 9)) [],
  (⟨⟨none, none, .store 1 (.t 22) (.t 19)⟩, 0, []⟩, [19, 22])]
@[reducible] def fTrSave_r3 : List (DOper × List Nat) := [
  o1 24 (.mv (.t 0)) [],
  o2 25 1 (.nilCheck (.t 24)) [24],
  o2 26 2 (.fieldAddr 0 (.t 25)) [25],
  o2 27 3 (.fieldAddr 0 (.t 26)) [26],
  o2 28 4 (.load none (.t 27)) [27],
  o2 29 5 (.load (some 7) (.t 9)) [],
  o2 30 6 (.call 26 [(.t 28), (.t 29)]) [28, 29],
  o2 23 7 (.mv (.t 30)) [30],
  o2 31 8 (.extract 0 (.t 23)) [],
  o2 32 9 (.extract 1 (.t 23)) [23],
  (⟨⟨none, none, .store 7 (.t 9) (.t 31)⟩, 10, []⟩, [31]),
  o2 10 11 (.mv (.t 32)) [32]]
@[reducible] def fTrSave_r4 : List (DOper × List Nat) := [
  o1 33 (.mv (.t 10)) [],
  o1 34 (.bin false .eql (.t 33) (.k (.int .i64 0))) [33]]
@[reducible] def fTrSave_r5 : List (DOper × List Nat) := [
  o1 35 (.mv (.t 0)) [0],
  o1 36 (.load (some 7) (.t 9)) [9],
  o1 37 (.nilCheck (.t 35)) [35],
  o1 38 (.fieldAddr 2 (.t 37)) [37],
  (⟨⟨none, none, .store 7 (.t 38) (.t 36)⟩, 0, []⟩, [36, 38])]
@[reducible] def fTrSave_k0 : KCode := (.kill [34] (.reg fTrSave_r5))
@[reducible] def fTrSave_r6 : List (DOper × List Nat) := [
  o1 39 (.mv (.t 10)) [10],
  o1 8 (.mv (.t 39)) [39]]
/-- (*bosun/transfer.Keeper).save -/
@[reducible] def fTrSave : KCode := (.seq (.reg fTrSave_r0) (.seq (.reg fTrSave_r1) (.seq (.reg fTrSave_r2) (.seq (.draw fTrSave_r3) (.seq (.seq (.reg fTrSave_r4) (.cond (.t 34) fTrSave_k0 (.keep [10] .skip))) (.keep [10] (.seq (.reg fTrSave_r6) .ret)))))))
@[reducible] def fTrSave_rs : List IRes := [.tmp 8]
theorem fTrSave_low : lowFunc Try.prog 71 [] [] = some ⟨fTrSave.bare, fTrSave_rs, 40⟩ := by kernel_rfl

@[reducible] def fTrLives_r0 : List (DOper × List Nat) := [
  o1 0 (.mv (.k (.bool false))) [0]]
@[reducible] def fTrLives_r1 : List (DOper × List Nat) := [
  o1 10 (.call 13 [(.k (.int .i64 34))]) [],
  o1 9 (.mv (.t 10)) [10],
  o1 11 (.extract 0 (.t 9)) [],
  o1 12 (.extract 1 (.t 9)) [9],
  o1 1 (.mv (.t 11)) [11],
  o1 2 (.mv (.t 12)) [2, 12]]
@[reducible] def fTrLives_r2 : List (DOper × List Nat) := [
  o1 14 (.mv (.t 1)) [],
  o1 15 (.call 39 [(.t 14)]) [14],
  o1 13 (.mv (.t 15)) [15],
  o1 16 (.extract 0 (.t 13)) [],
  o1 17 (.extract 1 (.t 13)) [13],
  o1 3 (.mv (.t 16)) [16],
  o1 4 (.mv (.t 17)) [17]]
@[reducible] def fTrLives_r3 : List (DOper × List Nat) := [
  o1 18 (.mv (.t 4)) [4],
  o1 19 (.bin false .neq (.t 18) (.k (.int .i64 0))) [18],
  o1 20 (.mv (.t 19)) [19],
  (⟨⟨(some 21), (some (20, false)), .mv (.t 3)⟩, 0, []⟩, []),
  (⟨⟨(some 22), (some (20, false)), .buildO 5 1 [(.int .u8 0), (.int .u8 0), (.int .u8 0), (.int .u8 0)] [(0, 1, (.k (.int .u8 105))), (1, 1, (.k (.int .u8 110))), (2, 1, (.k (.int .u8 105))), (3, 1, (.k (.int .u8 116)))]⟩, 0, []⟩, []),
  (⟨⟨(some 23), (some (20, false)), .cvt (.t 22)⟩, 0, []⟩, [22]),
  (⟨⟨(some 24), (some (20, false)), .call 43 [(.t 21), (.t 23)]⟩, 0, []⟩, [21, 23]),
  (⟨⟨(some 25), (some (20, false)), .bin false .neq (.t 24) (.k (.int .i64 0))⟩, 0, []⟩, [24]),
  o1 26 (.pick (.t 20) (.k (.bool true)) (.t 25)) [20, 25],
  o1 27 (.mv (.t 26)) [26],
  (⟨⟨(some 28), (some (27, false)), .mv (.t 3)⟩, 0, []⟩, [3]),
  (⟨⟨(some 29), (some (27, false)), .makeS 5 1 1 [(.int .u8 0)] (.k (.int .i64 1024)) (.k (.int .i64 1024))⟩, 0, []⟩, []),
  (⟨⟨(some 30), (some (27, false)), .call 42 [(.t 28), (.t 29)]⟩, 0, []⟩, [28, 29]),
  (⟨⟨(some 31), (some (27, false)), .bin false .neq (.t 30) (.k (.int .i64 0))⟩, 0, []⟩, [30]),
  o1 32 (.pick (.t 27) (.k (.bool true)) (.t 31)) [27, 31]]
@[reducible] def fTrLives_r4 : List (DOper × List Nat) := [
  o1 0 (.mv (.k (.bool false))) []]
@[reducible] def fTrLives_k0 : KCode := (.keep [] (.seq (.reg fTrLives_r4) .ret))
@[reducible] def fTrLives_r5 : List (DOper × List Nat) := [
  o1 34 (.mv (.t 1)) [1],
  o1 35 (.call 39 [(.t 34)]) [34],
  o1 33 (.mv (.t 35)) [35],
  o1 36 (.extract 0 (.t 33)) [],
  o1 37 (.extract 1 (.t 33)) [33],
  o1 5 (.mv (.t 36)) [36],
  o1 6 (.mv (.t 37)) [37]]
@[reducible] def fTrLives_r6 : List (DOper × List Nat) := [
  o1 38 (.mv (.t 6)) [6],
  o1 39 (.bin false .neq (.t 38) (.k (.int .i64 0))) [38]]
@[reducible] def fTrLives_r7 : List (DOper × List Nat) := [
  o1 0 (.mv (.k (.bool false))) []]
@[reducible] def fTrLives_k1 : KCode := (.keep [] (.seq (.reg fTrLives_r7) .ret))
@[reducible] def fTrLives_r8 : List (DOper × List Nat) := [
  o1 41 (.mv (.t 5)) [5],
  o1 42 (.call 40 [(.t 41)]) [41],
  o1 40 (.mv (.t 42)) [42],
  o1 43 (.extract 0 (.t 40)) [],
  o1 44 (.extract 1 (.t 40)) [40],
  o1 7 (.mv (.t 43)) [43],
  o1 8 (.mv (.t 44)) [44]]
@[reducible] def fTrLives_r9 : List (DOper × List Nat) := [
  o1 45 (.mv (.t 7)) [7],
  o1 46 (.toStr (.t 45)) [45],
  o1 47 (.bin false .eql (.t 46) (.k (.str [105, 110, 105, 116]))) [46],
  o1 48 (.mv (.t 47)) [47],
  (⟨⟨(some 49), (some (48, true)), .mv (.t 8)⟩, 0, []⟩, [8]),
  (⟨⟨(some 50), (some (48, true)), .bin false .eql (.t 49) (.k (.int .i64 1024))⟩, 0, []⟩, [49]),
  o1 51 (.pick (.t 48) (.t 50) (.k (.bool false))) [48, 50],
  o1 0 (.mv (.t 51)) [51]]
/-- bosun/bosunlaw18.lives -/
@[reducible] def fTrLives : KCode := (.seq (.reg fTrLives_r0) (.seq (.reg fTrLives_r1) (.seq (.reg fTrLives_r2) (.seq (.seq (.reg fTrLives_r3) (.cond (.t 32) fTrLives_k0 (.kill [32] .skip))) (.keep [1] (.seq (.reg fTrLives_r5) (.seq (.seq (.reg fTrLives_r6) (.cond (.t 39) fTrLives_k1 (.kill [39] .skip))) (.keep [5] (.seq (.reg fTrLives_r8) (.seq (.reg fTrLives_r9) .ret))))))))))
@[reducible] def fTrLives_rs : List IRes := [.tmp 0]
theorem fTrLives_low : lowFunc Try.prog 38 [(3, 4)] [] = some ⟨fTrLives.bare, fTrLives_rs, 52⟩ := by kernel_rfl

@[reducible] def fTrActs_r0 : List (DOper × List Nat) := [
  o1 2 (.mv (.k (.bool false))) [2]]
@[reducible] def fTrActs_r1 : List (DOper × List Nat) := [
  o1 23 (.call 38 []) [],
  o1 24 (.un .not (.t 23)) [23],
  o1 25 (.mv (.t 24)) [24],
  (⟨⟨(some 26), (some (25, false)), .mv (.t 0)⟩, 0, []⟩, []),
  (⟨⟨(some 27), (some (25, false)), .len true (.t 26)⟩, 0, []⟩, [26]),
  (⟨⟨(some 28), (some (25, false)), .bin false .gtr (.t 27) (.k (.int .i64 25))⟩, 0, []⟩, [27]),
  o1 29 (.pick (.t 25) (.k (.bool true)) (.t 28)) [25, 28]]
@[reducible] def fTrActs_r2 : List (DOper × List Nat) := [
  o1 30 (.call 38 []) [],
  o1 2 (.mv (.t 30)) [30]]
@[reducible] def fTrActs_k0 : KCode := (.keep [] (.seq (.reg fTrActs_r2) .ret))
@[reducible] def fTrActs_r3 : List (DOper × List Nat) := [
  o1 32 (.call 13 [(.k (.int .i64 34))]) [],
  o1 31 (.mv (.t 32)) [32],
  o1 33 (.extract 0 (.t 31)) [],
  o1 34 (.extract 1 (.t 31)) [31],
  o1 3 (.mv (.t 33)) [33],
  o1 4 (.mv (.t 34)) [4, 34]]
@[reducible] def fTrActs_r4 : List (DOper × List Nat) := [
  o1 36 (.mv (.t 3)) [],
  o1 37 (.call 39 [(.t 36)]) [36],
  o1 35 (.mv (.t 37)) [37],
  o1 38 (.extract 0 (.t 35)) [],
  o1 39 (.extract 1 (.t 35)) [35],
  o1 5 (.mv (.t 38)) [38],
  o1 6 (.mv (.t 39)) [39]]
@[reducible] def fTrActs_r5 : List (DOper × List Nat) := [
  o1 41 (.call 28 [(.k (.int .i64 34))]) [],
  o1 40 (.mv (.t 41)) [41],
  o1 42 (.extract 0 (.t 40)) [],
  o1 43 (.extract 1 (.t 40)) [40],
  o1 7 (.mv (.t 42)) [42],
  o1 8 (.mv (.t 43)) [8, 43]]
@[reducible] def fTrActs_r6 : List (DOper × List Nat) := [
  o1 44 (.mv (.t 7)) [7],
  o1 45 (.build [.nil, (.int .u32 0), (.int .u32 0), (.int .u32 0), (.int .u32 0), (.int .u32 0), (.int .u8 0), (.list 1 ⟨true, true, false⟩ [])] [(0, 1, (.t 44))]) [44],
  o1 46 (.box 83 (.t 45)) [45],
  o1 9 (.mv (.t 46)) [46]]
@[reducible] def fTrActs_r7 : List (DOper × List Nat) := [
  o1 47 (.mv (.t 6)) [6],
  o1 48 (.bin false .neq (.t 47) (.k (.int .i64 0))) [47]]
@[reducible] def fTrActs_r8 : List (DOper × List Nat) := [
  o1 2 (.mv (.k (.bool false))) []]
@[reducible] def fTrActs_k1 : KCode := (.keep [] (.seq (.reg fTrActs_r8) .ret))
@[reducible] def fTrActs_r9 : List (DOper × List Nat) := [
  o1 49 (.mv (.t 0)) [0],
  o1 50 (.len true (.t 49)) [],
  o1 51 (.mv (.k (.int .i64 0))) []]
@[reducible] def fTrActs_r10 : List (DOper × List Nat) := [
  o1 52 (.bin false .lss (.t 51) (.t 50)) []]
@[reducible] def fTrActs_k2 : KCode := (.keep [3, 9] (.exit 0))
@[reducible] def fTrActs_r11 : List (DOper × List Nat) := [
  o1 53 (.idxS 3 (.t 49) (.t 51)) [],
  o1 54 (.load (some 3) (.t 53)) [53],
  o1 11 (.alloc 85 [(.int .u8 0), (.int .i64 0), (.int .u32 0)]) [],
  (⟨⟨none, none, .store 3 (.t 11) (.t 54)⟩, 0, []⟩, [54])]
@[reducible] def fTrActs_r12 : List (DOper × List Nat) := [
  o1 55 (.fieldAddr 1 (.t 11)) [],
  o1 56 (.load none (.t 55)) [55],
  o1 57 (.convI .u64 (.t 56)) [56],
  o1 58 (.bin false .rem (.t 57) (.k (.int .u64 2000))) [57],
  o1 59 (.convI .i64 (.t 58)) [58],
  o1 12 (.mv (.t 59)) [59]]
@[reducible] def fTrActs_r13 : List (DOper × List Nat) := [
  o1 60 (.fieldAddr 0 (.t 11)) [],
  o1 61 (.load none (.t 60)) [60],
  o1 62 (.bin false .rem (.t 61) (.k (.int .u8 4))) [61]]
@[reducible] def fTrActs_r14 : List (DOper × List Nat) := [
  o1 99 (.bin false .eql (.t 62) (.k (.int .u8 0))) [],
  o1 98 (.mv (.t 99)) [99]]
@[reducible] def fTrActs_r15 : List (DOper × List Nat) := [
  o1 100 (.mv (.t 12)) [12],
  o1 101 (.bin false .rem (.t 100) (.k (.int .i64 140))) [100],
  o1 102 (.fieldAddr 2 (.t 11)) [11],
  o1 103 (.load none (.t 102)) [102],
  o1 104 (.call 44 [(.t 101), (.t 103)]) [101, 103],
  o1 13 (.mv (.t 104)) [104]]
@[reducible] def fTrActs_r16 : List (DOper × List Nat) := [
  o1 105 (.mv (.t 5)) [],
  o1 106 (.mv (.t 13)) [],
  o1 107 (.call 43 [(.t 105), (.t 106)]) [105, 106],
  o1 108 (.mv (.t 9)) [],
  o1 109 (.mv (.t 13)) [13],
  o1 110 (.call 45 [(.t 108), (.t 109)]) [108, 109],
  o1 111 (.bin false .neq (.t 107) (.t 110)) [107, 110]]
@[reducible] def fTrActs_r17 : List (DOper × List Nat) := [
  o1 2 (.mv (.k (.bool false))) []]
@[reducible] def fTrActs_k3 : KCode := (.keep [] (.seq (.reg fTrActs_r17) .ret))
@[reducible] def fTrActs_r18 : List (DOper × List Nat) := [
  o1 113 (.bin false .eql (.t 62) (.k (.int .u8 1))) [],
  o1 112 (.mv (.t 113)) [113]]
@[reducible] def fTrActs_r19 : List (DOper × List Nat) := [
  o1 114 (.mv (.t 12)) [12],
  o1 115 (.fieldAddr 2 (.t 11)) [11],
  o1 116 (.load none (.t 115)) [115],
  o1 117 (.call 44 [(.t 114), (.t 116)]) [114, 116],
  o1 14 (.mv (.t 117)) [117]]
@[reducible] def fTrActs_r20 : List (DOper × List Nat) := [
  o1 118 (.mv (.t 5)) [],
  o1 119 (.mv (.t 14)) [],
  o1 120 (.call 42 [(.t 118), (.t 119)]) [118, 119],
  o1 121 (.mv (.t 9)) [],
  o1 122 (.mv (.t 14)) [14],
  o1 123 (.call 46 [(.t 121), (.t 122)]) [121, 122],
  o1 124 (.bin false .neq (.t 120) (.t 123)) [120, 123]]
@[reducible] def fTrActs_r21 : List (DOper × List Nat) := [
  o1 2 (.mv (.k (.bool false))) []]
@[reducible] def fTrActs_k4 : KCode := (.keep [] (.seq (.reg fTrActs_r21) .ret))
@[reducible] def fTrActs_r22 : List (DOper × List Nat) := [
  o1 126 (.bin false .eql (.t 62) (.k (.int .u8 2))) [62],
  o1 125 (.mv (.t 126)) [126]]
@[reducible] def fTrActs_r23 : List (DOper × List Nat) := [
  o1 127 (.mv (.t 3)) [],
  o1 128 (.mv (.t 12)) [],
  o1 129 (.fieldAddr 2 (.t 11)) [],
  o1 130 (.load none (.t 129)) [129],
  o1 131 (.call 14 [(.t 127), (.t 128), (.t 130)]) [127, 128, 130, 131]]
@[reducible] def fTrActs_r24 : List (DOper × List Nat) := [
  o1 132 (.mv (.t 9)) [],
  o2 133 1 (.nilCheck (.t 132)) [132],
  o2 134 2 (.fieldAddr 0 (.t 133)) [133],
  o2 135 3 (.load none (.t 134)) [134],
  o2 136 4 (.mv (.t 12)) [12],
  o2 137 5 (.fieldAddr 2 (.t 11)) [11],
  o2 138 6 (.load none (.t 137)) [137],
  o2 139 7 (.call 47 [(.t 135), (.t 136), (.t 138)]) [135, 136, 138, 139]]
@[reducible] def fTrActs_r25 : List (DOper × List Nat) := [
  o1 63 (.mv (.t 3)) [],
  o1 64 (.call 17 [(.t 63)]) [63, 64]]
@[reducible] def fTrActs_r26 : List (DOper × List Nat) := [
  o1 65 (.mv (.t 9)) [],
  o1 66 (.nilCheck (.t 65)) [65],
  o1 67 (.fieldAddr 0 (.t 66)) [66],
  o1 68 (.load none (.t 67)) [67],
  o1 69 (.call 48 [(.t 68)]) [68, 69]]
@[reducible] def fTrActs_r27 : List (DOper × List Nat) := [
  o1 71 (.mv (.t 3)) [],
  o1 72 (.call 39 [(.t 71)]) [71],
  o1 70 (.mv (.t 72)) [72],
  o1 73 (.extract 0 (.t 70)) [],
  o1 74 (.extract 1 (.t 70)) [70],
  o1 5 (.mv (.t 73)) [73],
  o1 6 (.mv (.t 74)) [74]]
@[reducible] def fTrActs_r28 : List (DOper × List Nat) := [
  o1 76 (.mv (.t 9)) [],
  o1 77 (.nilCheck (.t 76)) [76],
  o1 78 (.fieldAddr 0 (.t 77)) [77],
  o1 79 (.load none (.t 78)) [78],
  o1 80 (.call 49 [(.t 79)]) [79],
  o1 75 (.mv (.t 80)) [80],
  o1 81 (.extract 0 (.t 75)) [],
  o1 82 (.extract 1 (.t 75)) [],
  o1 83 (.extract 2 (.t 75)) [75],
  o1 15 (.alloc 81 [(.int .u32 0), (.int .u32 0), (.int .u32 0), (.int .u32 0), (.int .u32 0), (.int .u8 0), (.list 1 ⟨true, true, false⟩ [])]) [],
  (⟨⟨none, none, .store 7 (.t 15) (.t 81)⟩, 0, []⟩, [81]),
  o1 16 (.mv (.t 82)) [16, 82],
  o1 17 (.mv (.t 83)) [83]]
@[reducible] def fTrActs_r29 : List (DOper × List Nat) := [
  o1 84 (.mv (.t 6)) [6],
  o1 85 (.bin false .neq (.t 84) (.k (.int .i64 0))) [84],
  o1 86 (.mv (.t 85)) [85],
  (⟨⟨(some 87), (some (86, false)), .mv (.t 17)⟩, 0, []⟩, []),
  (⟨⟨(some 88), (some (86, false)), .bin false .neq (.t 87) (.k (.int .i64 0))⟩, 0, []⟩, [87]),
  (⟨⟨(some 89), (some (86, false)), .mv (.t 88)⟩, 0, []⟩, [88]),
  (⟨⟨(some 90), (some (89, true)), .mv (.t 17)⟩, 0, []⟩, [17]),
  (⟨⟨(some 91), (some (89, true)), .bin false .neq (.t 90) (.k (.int .i64 15))⟩, 0, []⟩, [90]),
  (⟨⟨(some 92), (some (86, false)), .pick (.t 89) (.t 91) (.k (.bool false))⟩, 0, []⟩, [89, 91]),
  o1 93 (.pick (.t 86) (.k (.bool true)) (.t 92)) [86, 92]]
@[reducible] def fTrActs_r30 : List (DOper × List Nat) := [
  o1 2 (.mv (.k (.bool false))) []]
@[reducible] def fTrActs_k5 : KCode := (.keep [] (.seq (.reg fTrActs_r30) .ret))
@[reducible] def fTrActs_r31 : List (DOper × List Nat) := [
  o1 94 (.mv (.t 9)) [],
  o1 95 (.load (some 7) (.t 15)) [15],
  o1 96 (.nilCheck (.t 94)) [94],
  o1 97 (.fieldAddr 1 (.t 96)) [96],
  (⟨⟨none, none, .store 7 (.t 97) (.t 95)⟩, 0, []⟩, [95, 97])]
@[reducible] def fTrActs_k6 : KCode := (.kill [125] (.seq (.reg fTrActs_r23) (.draw fTrActs_r24)))
@[reducible] def fTrActs_k7 : KCode := (.kill [5, 11, 12, 125] (.seq (.reg fTrActs_r25) (.seq (.reg fTrActs_r26) (.seq (.reg fTrActs_r27) (.seq (.reg fTrActs_r28) (.seq (.seq (.reg fTrActs_r29) (.cond (.t 93) fTrActs_k5 (.kill [93] .skip))) (.keep [3, 5, 9, 15, 49, 50, 51] (.reg fTrActs_r31))))))))
@[reducible] def fTrActs_k8 : KCode := (.kill [62, 112] (.seq (.reg fTrActs_r19) (.seq (.reg fTrActs_r20) (.cond (.t 124) fTrActs_k4 (.kill [124] .skip)))))
@[reducible] def fTrActs_k9 : KCode := (.kill [112] (.seq (.reg fTrActs_r22) (.cond (.t 125) fTrActs_k6 fTrActs_k7)))
@[reducible] def fTrActs_k10 : KCode := (.kill [62, 98] (.seq (.reg fTrActs_r15) (.seq (.reg fTrActs_r16) (.cond (.t 111) fTrActs_k3 (.kill [111] .skip)))))
@[reducible] def fTrActs_k11 : KCode := (.kill [98] (.seq (.reg fTrActs_r18) (.cond (.t 112) fTrActs_k8 fTrActs_k9)))
@[reducible] def fTrActs_r32 : List (DOper × List Nat) := [
  o1 140 (.mv (.t 5)) [],
  o1 141 (.call 41 [(.t 140)]) [140],
  o1 18 (.alloc 42 [(.int .u32 0), (.int .u32 0), (.int .u32 0), (.int .u32 0), (.int .u8 0), (.int .u32 0), (.list 1 ⟨true, true, false⟩ [])]) [],
  (⟨⟨none, none, .store 7 (.t 18) (.t 141)⟩, 0, []⟩, [141])]
@[reducible] def fTrActs_r33 : List (DOper × List Nat) := [
  o1 142 (.fieldAddr 0 (.t 18)) [],
  o2 143 1 (.load none (.t 142)) [142],
  o2 144 2 (.fieldAddr 1 (.t 18)) [],
  o2 145 3 (.load none (.t 144)) [144],
  o2 146 4 (.fieldAddr 2 (.t 18)) [],
  o2 147 5 (.load none (.t 146)) [146],
  o2 148 6 (.fieldAddr 3 (.t 18)) [],
  o2 149 7 (.load none (.t 148)) [148],
  o2 150 8 (.fieldAddr 5 (.t 18)) [],
  o2 151 9 (.load none (.t 150)) [150],
  o2 152 10 (.fieldAddr 4 (.t 18)) [],
  o2 153 11 (.load none (.t 152)) [152],
  o2 154 12 (.fieldAddr 6 (.t 18)) [18],
  o2 155 13 (.load none (.t 154)) [154],
  o2 156 14 (.build [(.int .u32 0), (.int .u32 0), (.int .u32 0), (.int .u32 0), (.int .u32 0), (.int .u8 0), (.list 1 ⟨true, true, false⟩ [])] [(0, 1, (.t 143)), (1, 1, (.t 145)), (2, 1, (.t 147)), (3, 1, (.t 149)), (4, 1, (.t 151)), (5, 1, (.t 153)), (6, 1, (.t 155))]) [143, 145, 147, 149, 151, 153, 155],
  o2 157 15 (.mv (.t 9)) [],
  o2 158 16 (.nilCheck (.t 157)) [157],
  o2 159 17 (.fieldAddr 1 (.t 158)) [158],
  o2 160 18 (.load (some 7) (.t 159)) [159],
  o2 161 19 (.call 50 [(.t 156), (.t 160)]) [156, 160],
  o2 162 20 (.un .not (.t 161)) [161]]
@[reducible] def fTrActs_r34 : List (DOper × List Nat) := [
  o1 2 (.mv (.k (.bool false))) []]
@[reducible] def fTrActs_k12 : KCode := (.keep [] (.seq (.reg fTrActs_r34) .ret))
@[reducible] def fTrActs_r35 : List (DOper × List Nat) := [
  o1 164 (.mv (.t 5)) [],
  o1 165 (.call 40 [(.t 164)]) [164],
  o1 163 (.mv (.t 165)) [165],
  o1 166 (.extract 0 (.t 163)) [],
  o1 167 (.extract 1 (.t 163)) [163],
  o1 19 (.mv (.t 166)) [166],
  o1 20 (.mv (.t 167)) [167]]
@[reducible] def fTrActs_r36 : List (DOper × List Nat) := [
  o1 168 (.mv (.t 9)) [],
  o2 169 1 (.nilCheck (.t 168)) [168],
  o2 170 2 (.fieldAddr 1 (.t 169)) [169],
  o2 171 3 (.fieldAddr 5 (.t 170)) [170],
  o2 172 4 (.load none (.t 171)) [171],
  o2 173 5 (.bin false .eql (.t 172) (.k (.int .u8 1))) [172],
  o2 174 6 (.mv (.t 173)) [173],
  (⟨⟨(some 175), (some (174, true)), .mv (.t 19)⟩, 7, []⟩, []),
  (⟨⟨(some 176), (some (174, true)), .toStr (.t 175)⟩, 8, []⟩, [175]),
  (⟨⟨(some 177), (some (174, true)), .mv (.t 9)⟩, 9, []⟩, []),
  (⟨⟨(some 178), (some (174, true)), .nilCheck (.t 177)⟩, 10, []⟩, [177]),
  (⟨⟨(some 179), (some (174, true)), .fieldAddr 1 (.t 178)⟩, 11, []⟩, [178]),
  (⟨⟨(some 180), (some (174, true)), .fieldAddr 6 (.t 179)⟩, 12, []⟩, [179]),
  (⟨⟨(some 181), (some (174, true)), .load none (.t 180)⟩, 13, []⟩, [180]),
  (⟨⟨(some 182), (some (174, true)), .toStr (.t 181)⟩, 14, []⟩, [181]),
  (⟨⟨(some 183), (some (174, true)), .bin false .neq (.t 176) (.t 182)⟩, 15, []⟩, [176, 182]),
  (⟨⟨(some 184), (some (174, true)), .mv (.t 183)⟩, 16, []⟩, [183]),
  (⟨⟨(some 185), (some (184, false)), .mv (.t 20)⟩, 17, []⟩, []),
  (⟨⟨(some 186), (some (184, false)), .mv (.t 9)⟩, 18, []⟩, []),
  (⟨⟨(some 187), (some (184, false)), .nilCheck (.t 186)⟩, 19, []⟩, [186]),
  (⟨⟨(some 188), (some (184, false)), .fieldAddr 1 (.t 187)⟩, 20, []⟩, [187]),
  (⟨⟨(some 189), (some (184, false)), .fieldAddr 4 (.t 188)⟩, 21, []⟩, [188]),
  (⟨⟨(some 190), (some (184, false)), .load none (.t 189)⟩, 22, []⟩, [189]),
  (⟨⟨(some 191), (some (184, false)), .convI .i64 (.t 190)⟩, 23, []⟩, [190]),
  (⟨⟨(some 192), (some (184, false)), .bin false .neq (.t 185) (.t 191)⟩, 24, []⟩, [185, 191]),
  (⟨⟨(some 193), (some (174, true)), .pick (.t 184) (.k (.bool true)) (.t 192)⟩, 25, []⟩, [184, 192]),
  o2 194 26 (.pick (.t 174) (.t 193) (.k (.bool false))) [174, 193],
  o2 195 27 (.mv (.t 194)) [194],
  (⟨⟨(some 196), (some (195, false)), .mv (.t 9)⟩, 28, []⟩, []),
  (⟨⟨(some 197), (some (195, false)), .nilCheck (.t 196)⟩, 29, []⟩, [196]),
  (⟨⟨(some 198), (some (195, false)), .fieldAddr 1 (.t 197)⟩, 30, []⟩, [197]),
  (⟨⟨(some 199), (some (195, false)), .fieldAddr 5 (.t 198)⟩, 31, []⟩, [198]),
  (⟨⟨(some 200), (some (195, false)), .load none (.t 199)⟩, 32, []⟩, [199]),
  (⟨⟨(some 201), (some (195, false)), .bin false .neq (.t 200) (.k (.int .u8 1))⟩, 33, []⟩, [200]),
  (⟨⟨(some 202), (some (195, false)), .mv (.t 201)⟩, 34, []⟩, [201]),
  (⟨⟨(some 203), (some (202, true)), .mv (.t 19)⟩, 35, []⟩, [19]),
  (⟨⟨(some 204), (some (202, true)), .len true (.t 203)⟩, 36, []⟩, [203]),
  (⟨⟨(some 205), (some (202, true)), .mv (.t 20)⟩, 37, []⟩, [20]),
  (⟨⟨(some 206), (some (202, true)), .bin false .add (.t 204) (.t 205)⟩, 38, []⟩, [204, 205]),
  (⟨⟨(some 207), (some (202, true)), .bin false .gtr (.t 206) (.k (.int .i64 0))⟩, 39, []⟩, [206]),
  (⟨⟨(some 208), (some (195, false)), .pick (.t 202) (.t 207) (.k (.bool false))⟩, 40, []⟩, [202, 207]),
  o2 209 41 (.pick (.t 195) (.k (.bool true)) (.t 208)) [195, 208]]
@[reducible] def fTrActs_r37 : List (DOper × List Nat) := [
  o1 2 (.mv (.k (.bool false))) []]
@[reducible] def fTrActs_k13 : KCode := (.keep [] (.seq (.reg fTrActs_r37) .ret))
@[reducible] def fTrActs_r38 : List (DOper × List Nat) := [
  o1 210 (.bin false .add (.t 51) (.k (.int .i64 1))) [51],
  o1 51 (.mv (.t 210)) [210]]
/-- live: [3, 5, 9, 49, 50, 51] -/
@[reducible] def fTrActs_l14 : KCode := (.seq (.reg fTrActs_r10) (.seq (.cond (.t 52) (.kill [52] .skip) fTrActs_k2) (.kill [52] (.seq (.block 1 (.seq (.reg fTrActs_r11) (.seq (.reg fTrActs_r12) (.seq (.seq (.reg fTrActs_r13) (.block 2 (.seq (.reg fTrActs_r14) (.cond (.t 98) fTrActs_k10 fTrActs_k11)))) (.cut (.keep [3, 5, 9, 49, 50, 51] (.seq (.reg fTrActs_r32) (.seq (.seq (.draw fTrActs_r33) (.cond (.t 162) fTrActs_k12 (.kill [162] .skip))) (.keep [3, 5, 9, 49, 50, 51] (.seq (.reg fTrActs_r35) (.seq (.draw fTrActs_r36) (.cond (.t 209) fTrActs_k13 (.kill [209] .skip))))))))))))) (.keep [3, 5, 9, 49, 50, 51] (.reg fTrActs_r38))))))
@[reducible] def fTrActs_r39 : List (DOper × List Nat) := [
  o1 211 (.mv (.t 3)) [],
  o1 212 (.call 17 [(.t 211)]) [211, 212]]
@[reducible] def fTrActs_r40 : List (DOper × List Nat) := [
  o1 214 (.mv (.t 3)) [],
  o1 215 (.mv (.t 3)) [3],
  o1 216 (.call 21 [(.t 215)]) [215],
  o1 217 (.call 18 [(.t 214), (.k (.int .i64 0)), (.t 216)]) [214, 216],
  o1 213 (.mv (.t 217)) [217],
  o1 218 (.extract 0 (.t 213)) [],
  o1 219 (.extract 1 (.t 213)) [213],
  o1 21 (.mv (.t 218)) [218],
  o1 22 (.mv (.t 219)) [219]]
@[reducible] def fTrActs_r41 : List (DOper × List Nat) := [
  o1 220 (.mv (.t 22)) [22],
  o2 221 1 (.bin false .eql (.t 220) (.k (.int .i64 0))) [220],
  o2 222 2 (.mv (.t 221)) [221],
  (⟨⟨(some 223), (some (222, true)), .mv (.t 21)⟩, 3, []⟩, [21]),
  (⟨⟨(some 224), (some (222, true)), .toStr (.t 223)⟩, 4, []⟩, [223]),
  (⟨⟨(some 225), (some (222, true)), .mv (.t 9)⟩, 5, []⟩, [9]),
  (⟨⟨(some 226), (some (222, true)), .nilCheck (.t 225)⟩, 6, []⟩, [225]),
  (⟨⟨(some 227), (some (222, true)), .fieldAddr 0 (.t 226)⟩, 7, []⟩, [226]),
  (⟨⟨(some 228), (some (222, true)), .load none (.t 227)⟩, 8, []⟩, [227]),
  (⟨⟨(some 229), (some (222, true)), .nilCheck (.t 228)⟩, 9, []⟩, [228]),
  (⟨⟨(some 230), (some (222, true)), .fieldAddr 0 (.t 229)⟩, 10, []⟩, [229]),
  (⟨⟨(some 231), (some (222, true)), .load none (.t 230)⟩, 11, []⟩, [230]),
  (⟨⟨(some 232), (some (222, true)), .toStr (.t 231)⟩, 12, []⟩, [231]),
  (⟨⟨(some 233), (some (222, true)), .bin false .eql (.t 224) (.t 232)⟩, 13, []⟩, [224, 232]),
  o2 234 14 (.pick (.t 222) (.t 233) (.k (.bool false))) [222, 233],
  o2 2 15 (.mv (.t 234)) [234]]
/-- bosun/bosunlaw18.TransferActs -/
@[reducible] def fTrActs : KCode := (.seq (.reg fTrActs_r0) (.seq (.seq (.reg fTrActs_r1) (.cond (.t 29) fTrActs_k0 (.kill [29] .skip))) (.keep [0] (.seq (.reg fTrActs_r3) (.seq (.reg fTrActs_r4) (.seq (.reg fTrActs_r5) (.seq (.reg fTrActs_r6) (.seq (.seq (.reg fTrActs_r7) (.cond (.t 48) fTrActs_k1 (.kill [48] .skip))) (.kill [2, 6, 47, 48] (.seq (.seq (.reg fTrActs_r9) (.block 0 (.loop fTrActs_l14))) (.keep [3, 9] (.seq (.reg fTrActs_r39) (.seq (.reg fTrActs_r40) (.seq (.draw fTrActs_r41) .ret))))))))))))))
@[reducible] def fTrActs_rs : List IRes := [.tmp 2]
theorem fTrActs_low : lowFunc Try.prog 10 [] [] = some ⟨fTrActs.bare, fTrActs_rs, 235⟩ := by kernel_rfl

@[reducible] def fTrBytes_r0 : List (DOper × List Nat) := [
  o1 4 (.mv (.k (.list 1 ⟨true, true, false⟩ []))) [4]]
@[reducible] def fTrBytes_r1 : List (DOper × List Nat) := [
  o1 5 (.mv (.k (.list 1 ⟨true, true, false⟩ []))) []]
@[reducible] def fTrBytes_r2 : List (DOper × List Nat) := [
  o1 6 (.mv (.t 0)) [0],
  o1 7 (.mv (.k (.int .i64 0))) []]
@[reducible] def fTrBytes_r3 : List (DOper × List Nat) := [
  o1 8 (.bin false .lss (.t 7) (.t 6)) []]
@[reducible] def fTrBytes_r4 : List (DOper × List Nat) := [
  o1 9 (.mv (.t 1)) [1],
  o1 10 (.bin false .mul (.t 9) (.k (.int .u32 1664525))) [9],
  o1 11 (.bin false .add (.t 10) (.k (.int .u32 1013904223))) [10],
  o1 1 (.mv (.t 11)) [11]]
@[reducible] def fTrBytes_r5 : List (DOper × List Nat) := [
  o1 12 (.mv (.t 5)) [5],
  o1 13 (.mv (.t 1)) [],
  o1 14 (.bin false .shr (.t 13) (.k (.int .u64 24))) [13],
  o1 15 (.convI .u8 (.t 14)) [14],
  o1 16 (.buildF 5 1 [(.int .u8 0)] [(0, 1, (.t 15))]) [15],
  o1 17 (.appO 5 1 1 (.t 12) (.t 16)) [12, 16],
  o1 5 (.mv (.t 17)) [17]]
@[reducible] def fTrBytes_r6 : List (DOper × List Nat) := [
  o1 18 (.bin false .add (.t 7) (.k (.int .i64 1))) [7],
  o1 7 (.mv (.t 18)) [18]]
/-- live: [1, 5, 6, 7] -/
@[reducible] def fTrBytes_l0 : KCode := (.seq (.reg fTrBytes_r3) (.seq (.cond (.t 8) (.kill [8] .skip) (.keep [5] (.exit 0))) (.kill [8] (.seq (.block 1 (.seq (.reg fTrBytes_r4) (.reg fTrBytes_r5))) (.keep [1, 5, 6, 7] (.reg fTrBytes_r6))))))
@[reducible] def fTrBytes_r7 : List (DOper × List Nat) := [
  o1 19 (.mv (.t 5)) [5],
  o1 4 (.mv (.t 19)) [19]]
/-- bosun/bosunlaw18.bytes -/
@[reducible] def fTrBytes : KCode := (.seq (.reg fTrBytes_r0) (.seq (.reg fTrBytes_r1) (.seq (.seq (.reg fTrBytes_r2) (.block 0 (.loop fTrBytes_l0))) (.keep [5] (.seq (.reg fTrBytes_r7) .ret)))))
@[reducible] def fTrBytes_rs : List IRes := [.tmp 4]
theorem fTrBytes_low : lowFunc Try.prog 44 [] [] = some ⟨fTrBytes.bare, fTrBytes_rs, 20⟩ := by kernel_rfl

@[reducible] def fTrMStart_r0 : List (DOper × List Nat) := [
  o1 4 (.mv (.k (.int .i64 0))) [4]]
@[reducible] def fTrMStart_r1 : List (DOper × List Nat) := [
  o1 7 (.mv (.t 0)) [],
  o1 8 (.call 72 [(.t 7), (.k (.int .u8 0)), (.k (.int .u32 0)), (.k (.list 1 ⟨true, true, false⟩ []))]) [7],
  o1 5 (.mv (.t 8)) [8]]
@[reducible] def fTrMStart_r2 : List (DOper × List Nat) := [
  o1 9 (.mv (.t 5)) [],
  o1 10 (.bin false .neq (.t 9) (.k (.int .i64 0))) [9]]
@[reducible] def fTrMStart_r3 : List (DOper × List Nat) := [
  o1 11 (.mv (.t 5)) [5],
  o1 4 (.mv (.t 11)) [11]]
@[reducible] def fTrMStart_k0 : KCode := (.keep [5] (.seq (.reg fTrMStart_r3) .ret))
@[reducible] def fTrMStart_r4 : List (DOper × List Nat) := [
  o1 12 (.mv (.t 0)) [],
  o1 13 (.call 73 [(.t 12), (.k (.int .i64 0)), (.k (.int .i64 16))]) [12],
  o1 6 (.mv (.t 13)) [13]]
@[reducible] def fTrMStart_r5 : List (DOper × List Nat) := [
  o1 14 (.mv (.t 6)) [],
  o1 15 (.bin false .neq (.t 14) (.k (.int .i64 0))) [14]]
@[reducible] def fTrMStart_r6 : List (DOper × List Nat) := [
  o1 16 (.mv (.t 6)) [6],
  o1 4 (.mv (.t 16)) [16]]
@[reducible] def fTrMStart_k1 : KCode := (.keep [6] (.seq (.reg fTrMStart_r6) .ret))
@[reducible] def fTrMStart_r7 : List (DOper × List Nat) := [
  o1 17 (.mv (.t 0)) [0],
  o1 18 (.mv (.t 1)) [1],
  o1 19 (.call 72 [(.t 17), (.k (.int .u8 1)), (.k (.int .u32 0)), (.t 18)]) [17, 18],
  o1 4 (.mv (.t 19)) [19]]
/-- (*bosun/bosunlaw18.Model).start -/
@[reducible] def fTrMStart : KCode := (.seq (.reg fTrMStart_r0) (.seq (.seq (.reg fTrMStart_r1) (.seq (.reg fTrMStart_r2) (.cond (.t 10) fTrMStart_k0 (.kill [5, 10] .skip)))) (.keep [0, 1] (.seq (.seq (.reg fTrMStart_r4) (.seq (.reg fTrMStart_r5) (.cond (.t 15) fTrMStart_k1 (.kill [6, 15] .skip)))) (.keep [0, 1] (.seq (.reg fTrMStart_r7) .ret))))))
@[reducible] def fTrMStart_rs : List IRes := [.tmp 4]
theorem fTrMStart_low : lowFunc Try.prog 45 [] [] = some ⟨fTrMStart.bare, fTrMStart_rs, 20⟩ := by kernel_rfl

@[reducible] def fTrMPut_r0 : List (DOper × List Nat) := [
  o1 4 (.mv (.k (.int .i64 0))) [4]]
@[reducible] def fTrMPut_r1 : List (DOper × List Nat) := [
  o1 9 (.mv (.t 0)) [],
  o1 10 (.nilCheck (.t 9)) [9],
  o1 11 (.fieldAddr 1 (.t 10)) [10],
  o1 12 (.fieldAddr 4 (.t 11)) [11],
  o1 13 (.load none (.t 12)) [12],
  o1 14 (.convI .i64 (.t 13)) [13],
  o1 5 (.mv (.t 14)) [14]]
@[reducible] def fTrMPut_r2 : List (DOper × List Nat) := [
  o1 15 (.mv (.t 0)) [],
  o1 16 (.nilCheck (.t 15)) [15],
  o1 17 (.fieldAddr 1 (.t 16)) [16],
  o1 18 (.fieldAddr 5 (.t 17)) [17],
  o1 19 (.load none (.t 18)) [18],
  o1 20 (.bin false .neq (.t 19) (.k (.int .u8 1))) [19]]
@[reducible] def fTrMPut_r3 : List (DOper × List Nat) := [
  o1 4 (.mv (.k (.int .i64 16))) []]
@[reducible] def fTrMPut_k0 : KCode := (.keep [] (.seq (.reg fTrMPut_r3) .ret))
@[reducible] def fTrMPut_r4 : List (DOper × List Nat) := [
  o1 21 (.mv (.t 5)) [],
  o1 22 (.bin false .rem (.t 21) (.k (.int .i64 256))) [21],
  o1 23 (.bin false .neq (.t 22) (.k (.int .i64 0))) [22],
  o1 24 (.mv (.t 23)) [23],
  (⟨⟨(some 25), (some (24, false)), .mv (.t 5)⟩, 0, []⟩, []),
  (⟨⟨(some 26), (some (24, false)), .mv (.t 1)⟩, 0, []⟩, []),
  (⟨⟨(some 27), (some (24, false)), .len true (.t 26)⟩, 0, []⟩, [26]),
  (⟨⟨(some 28), (some (24, false)), .bin false .add (.t 25) (.t 27)⟩, 0, []⟩, [25, 27]),
  (⟨⟨(some 29), (some (24, false)), .bin false .gtr (.t 28) (.k (.int .i64 4096))⟩, 0, []⟩, [28]),
  o1 30 (.pick (.t 24) (.k (.bool true)) (.t 29)) [24, 29]]
@[reducible] def fTrMPut_r5 : List (DOper × List Nat) := [
  o1 4 (.mv (.k (.int .i64 12))) []]
@[reducible] def fTrMPut_k1 : KCode := (.keep [] (.seq (.reg fTrMPut_r5) .ret))
@[reducible] def fTrMPut_r6 : List (DOper × List Nat) := [
  o1 31 (.mv (.t 0)) [],
  o1 32 (.mv (.t 5)) [],
  o1 33 (.bin false .quo (.t 32) (.k (.int .i64 256))) [32],
  o1 34 (.mv (.t 5)) [],
  o1 35 (.mv (.t 1)) [],
  o1 36 (.len true (.t 35)) [35],
  o1 37 (.bin false .add (.t 34) (.t 36)) [34, 36],
  o1 38 (.bin false .add (.t 37) (.k (.int .i64 255))) [37],
  o1 39 (.bin false .quo (.t 38) (.k (.int .i64 256))) [38],
  o1 40 (.call 73 [(.t 31), (.t 33), (.t 39)]) [31, 33, 39],
  o1 6 (.mv (.t 40)) [40]]
@[reducible] def fTrMPut_r7 : List (DOper × List Nat) := [
  o1 41 (.mv (.t 6)) [],
  o1 42 (.bin false .neq (.t 41) (.k (.int .i64 0))) [41]]
@[reducible] def fTrMPut_r8 : List (DOper × List Nat) := [
  o1 43 (.mv (.t 6)) [6],
  o1 4 (.mv (.t 43)) [43]]
@[reducible] def fTrMPut_k2 : KCode := (.keep [6] (.seq (.reg fTrMPut_r8) .ret))
@[reducible] def fTrMPut_r9 : List (DOper × List Nat) := [
  o1 44 (.buildF 5 1 [] []) [],
  o1 45 (.mv (.t 1)) [],
  o1 46 (.appO 5 1 1 (.t 44) (.t 45)) [44, 45],
  o1 7 (.mv (.t 46)) [46]]
@[reducible] def fTrMPut_r10 : List (DOper × List Nat) := [
  o1 47 (.mv (.t 7)) [],
  o1 48 (.len true (.t 47)) [47],
  o1 49 (.bin false .rem (.t 48) (.k (.int .i64 4))) [48],
  o1 50 (.bin false .neq (.t 49) (.k (.int .i64 0))) [49]]
@[reducible] def fTrMPut_r11 : List (DOper × List Nat) := [
  o1 51 (.mv (.t 7)) [7],
  o1 52 (.buildF 5 1 [(.int .u8 0)] [(0, 1, (.k (.int .u8 255)))]) [],
  o1 53 (.appO 5 1 1 (.t 51) (.t 52)) [51, 52],
  o1 7 (.mv (.t 53)) [53]]
/-- live: [0, 1, 5, 7] -/
@[reducible] def fTrMPut_l3 : KCode := (.seq (.seq (.reg fTrMPut_r10) (.cond (.t 50) (.kill [50] .skip) (.kill [50] (.exit 0)))) (.kill [47, 48, 49, 50] (.block 1 (.reg fTrMPut_r11))))
@[reducible] def fTrMPut_r12 : List (DOper × List Nat) := [
  o1 54 (.mv (.t 0)) [],
  o1 55 (.nilCheck (.t 54)) [54],
  o1 56 (.fieldAddr 0 (.t 55)) [55],
  o1 57 (.load none (.t 56)) [56],
  o1 58 (.mv (.t 5)) [],
  o1 59 (.bin false .add (.k (.int .i64 4608)) (.t 58)) [58],
  o1 60 (.mv (.t 7)) [7],
  o1 61 (.call 67 [(.t 57), (.t 59), (.t 60)]) [57, 59, 60],
  o1 8 (.mv (.t 61)) [61]]
@[reducible] def fTrMPut_r13 : List (DOper × List Nat) := [
  o1 62 (.mv (.t 8)) [],
  o1 63 (.bin false .neq (.t 62) (.k (.int .i64 0))) [62]]
@[reducible] def fTrMPut_r14 : List (DOper × List Nat) := [
  o1 64 (.mv (.t 8)) [8],
  o1 4 (.mv (.t 64)) [64]]
@[reducible] def fTrMPut_k4 : KCode := (.keep [8] (.seq (.reg fTrMPut_r14) .ret))
@[reducible] def fTrMPut_r15 : List (DOper × List Nat) := [
  o1 65 (.mv (.t 0)) [],
  o1 66 (.mv (.t 5)) [5],
  o1 67 (.mv (.t 1)) [1],
  o1 68 (.len true (.t 67)) [67],
  o1 69 (.bin false .add (.t 66) (.t 68)) [66, 68],
  o1 70 (.convI .u32 (.t 69)) [69],
  o1 71 (.mv (.t 0)) [0],
  o1 72 (.nilCheck (.t 71)) [71],
  o1 73 (.fieldAddr 1 (.t 72)) [72],
  o1 74 (.fieldAddr 6 (.t 73)) [73],
  o1 75 (.load none (.t 74)) [74],
  o1 76 (.call 72 [(.t 65), (.k (.int .u8 1)), (.t 70), (.t 75)]) [65, 70, 75],
  o1 4 (.mv (.t 76)) [76]]
/-- (*bosun/bosunlaw18.Model).put -/
@[reducible] def fTrMPut : KCode := (.seq (.reg fTrMPut_r0) (.seq (.reg fTrMPut_r1) (.seq (.seq (.reg fTrMPut_r2) (.cond (.t 20) fTrMPut_k0 (.kill [20] .skip))) (.keep [0, 1, 5] (.seq (.seq (.reg fTrMPut_r4) (.cond (.t 30) fTrMPut_k1 (.kill [30] .skip))) (.keep [0, 1, 5] (.seq (.seq (.reg fTrMPut_r6) (.seq (.reg fTrMPut_r7) (.cond (.t 42) fTrMPut_k2 (.kill [6, 42] .skip)))) (.keep [0, 1, 5] (.seq (.reg fTrMPut_r9) (.seq (.block 0 (.loop fTrMPut_l3)) (.cut (.keep [0, 1, 5, 7] (.seq (.seq (.reg fTrMPut_r12) (.seq (.reg fTrMPut_r13) (.cond (.t 63) fTrMPut_k4 (.kill [8, 63] .skip)))) (.keep [0, 1, 5] (.seq (.reg fTrMPut_r15) .ret)))))))))))))))
@[reducible] def fTrMPut_rs : List IRes := [.tmp 4]
theorem fTrMPut_low : lowFunc Try.prog 46 [] [] = some ⟨fTrMPut.bare, fTrMPut_rs, 77⟩ := by kernel_rfl

@[reducible] def fTrMRem_r0 : List (DOper × List Nat) := [
  o1 8 (.mv (.k (.int .i64 0))) [8]]
@[reducible] def fTrMRem_r1 : List (DOper × List Nat) := [
  o1 11 (.mv (.t 0)) [],
  o1 12 (.nilCheck (.t 11)) [11],
  o1 13 (.fieldAddr 1 (.t 12)) [12],
  o1 14 (.load (some 7) (.t 13)) [13],
  o1 9 (.alloc 81 [(.int .u32 0), (.int .u32 0), (.int .u32 0), (.int .u32 0), (.int .u32 0), (.int .u8 0), (.list 1 ⟨true, true, false⟩ [])]) [],
  (⟨⟨none, none, .store 7 (.t 9) (.t 14)⟩, 0, []⟩, [14])]
@[reducible] def fTrMRem_r2 : List (DOper × List Nat) := [
  o1 15 (.mv (.t 1)) [1],
  o1 16 (.mv (.t 2)) [2],
  o1 17 (.mv (.t 3)) [3],
  o1 18 (.fieldAddr 5 (.t 9)) [],
  (⟨⟨none, none, .store 1 (.t 18) (.t 15)⟩, 0, []⟩, [15, 18]),
  o1 19 (.fieldAddr 4 (.t 9)) [],
  (⟨⟨none, none, .store 1 (.t 19) (.t 16)⟩, 0, []⟩, [16, 19]),
  o1 20 (.fieldAddr 6 (.t 9)) [],
  (⟨⟨none, none, .store 1 (.t 20) (.t 17)⟩, 0, []⟩, [17, 20])]
@[reducible] def fTrMRem_r3 : List (DOper × List Nat) := [
  o1 22 (.mv (.t 0)) [],
  o2 23 1 (.nilCheck (.t 22)) [22],
  o2 24 2 (.fieldAddr 0 (.t 23)) [23],
  o2 25 3 (.load none (.t 24)) [24],
  o2 26 4 (.load (some 7) (.t 9)) [],
  o2 27 5 (.call 64 [(.t 25), (.t 26)]) [25, 26],
  o2 21 6 (.mv (.t 27)) [27],
  o2 28 7 (.extract 0 (.t 21)) [],
  o2 29 8 (.extract 1 (.t 21)) [21],
  (⟨⟨none, none, .store 7 (.t 9) (.t 28)⟩, 9, []⟩, [28]),
  o2 10 10 (.mv (.t 29)) [29]]
@[reducible] def fTrMRem_r4 : List (DOper × List Nat) := [
  o1 30 (.mv (.t 10)) [],
  o1 31 (.bin false .eql (.t 30) (.k (.int .i64 0))) [30]]
@[reducible] def fTrMRem_r5 : List (DOper × List Nat) := [
  o1 32 (.mv (.t 0)) [0],
  o1 33 (.load (some 7) (.t 9)) [9],
  o1 34 (.nilCheck (.t 32)) [32],
  o1 35 (.fieldAddr 1 (.t 34)) [34],
  (⟨⟨none, none, .store 7 (.t 35) (.t 33)⟩, 0, []⟩, [33, 35])]
@[reducible] def fTrMRem_k0 : KCode := (.kill [31] (.reg fTrMRem_r5))
@[reducible] def fTrMRem_r6 : List (DOper × List Nat) := [
  o1 36 (.mv (.t 10)) [10],
  o1 8 (.mv (.t 36)) [36]]
/-- (*bosun/bosunlaw18.Model).remember -/
@[reducible] def fTrMRem : KCode := (.seq (.reg fTrMRem_r0) (.seq (.reg fTrMRem_r1) (.seq (.reg fTrMRem_r2) (.seq (.draw fTrMRem_r3) (.seq (.seq (.reg fTrMRem_r4) (.cond (.t 31) fTrMRem_k0 (.keep [10] .skip))) (.keep [10] (.seq (.reg fTrMRem_r6) .ret)))))))
@[reducible] def fTrMRem_rs : List IRes := [.tmp 8]
theorem fTrMRem_low : lowFunc Try.prog 72 [] [] = some ⟨fTrMRem.bare, fTrMRem_rs, 37⟩ := by kernel_rfl

@[reducible] def fTrMClear_r0 : List (DOper × List Nat) := [
  o1 6 (.mv (.k (.int .i64 0))) [6]]
@[reducible] def fTrMClear_r1 : List (DOper × List Nat) := [
  o1 9 (.mv (.t 1)) [1],
  o1 7 (.mv (.t 9)) [9]]
@[reducible] def fTrMClear_r2 : List (DOper × List Nat) := [
  o1 10 (.mv (.t 7)) [],
  o1 11 (.mv (.t 2)) [],
  o1 12 (.bin false .lss (.t 10) (.t 11)) [10, 11]]
@[reducible] def fTrMClear_r3 : List (DOper × List Nat) := [
  o1 15 (.mv (.t 0)) [],
  o1 16 (.nilCheck (.t 15)) [15],
  o1 17 (.fieldAddr 0 (.t 16)) [16],
  o1 18 (.load none (.t 17)) [17],
  o1 19 (.mv (.t 7)) [],
  o1 20 (.bin false .add (.k (.int .i64 18)) (.t 19)) [19],
  o1 21 (.call 66 [(.t 18), (.t 20)]) [18, 20],
  o1 8 (.mv (.t 21)) [21]]
@[reducible] def fTrMClear_r4 : List (DOper × List Nat) := [
  o1 22 (.mv (.t 8)) [],
  o1 23 (.bin false .neq (.t 22) (.k (.int .i64 0))) [22]]
@[reducible] def fTrMClear_r5 : List (DOper × List Nat) := [
  o1 24 (.mv (.t 8)) [8],
  o1 6 (.mv (.t 24)) [24]]
@[reducible] def fTrMClear_k0 : KCode := (.keep [8] (.seq (.reg fTrMClear_r5) .ret))
@[reducible] def fTrMClear_r6 : List (DOper × List Nat) := [
  o1 13 (.mv (.t 7)) [7],
  o1 14 (.bin false .add (.t 13) (.k (.int .i64 1))) [13],
  o1 7 (.mv (.t 14)) [14]]
/-- live: [0, 2, 7] -/
@[reducible] def fTrMClear_l1 : KCode := (.seq (.seq (.reg fTrMClear_r2) (.cond (.t 12) (.kill [12] .skip) (.keep [] (.exit 0)))) (.kill [10, 11, 12] (.seq (.block 1 (.seq (.reg fTrMClear_r3) (.seq (.reg fTrMClear_r4) (.cond (.t 23) fTrMClear_k0 (.kill [8, 23] .skip))))) (.keep [0, 2, 7] (.reg fTrMClear_r6)))))
@[reducible] def fTrMClear_r7 : List (DOper × List Nat) := [
  o1 6 (.mv (.k (.int .i64 0))) []]
/-- (*bosun/bosunlaw18.Model).clear -/
@[reducible] def fTrMClear : KCode := (.seq (.reg fTrMClear_r0) (.seq (.seq (.reg fTrMClear_r1) (.block 0 (.loop fTrMClear_l1))) (.keep [] (.seq (.reg fTrMClear_r7) .ret))))
@[reducible] def fTrMClear_rs : List IRes := [.tmp 6]
theorem fTrMClear_low : lowFunc Try.prog 73 [] [] = some ⟨fTrMClear.bare, fTrMClear_rs, 25⟩ := by kernel_rfl

end Go.Proofs.Ytjehncilahjmdaa
