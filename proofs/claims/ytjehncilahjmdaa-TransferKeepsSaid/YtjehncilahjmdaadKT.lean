/-
  Codes of functions.
-/
import Derived.Test.YtjehncilahjmdaadB1
import Derived.Test.YtjehncilahjmdaaRows
set_option linter.unusedSimpArgs false
set_option linter.unnecessarySimpa false
set_option linter.unusedVariables false
set_option linter.unusedSectionVars false
namespace Go.Proofs.Ytjehncilahjmdaa
open Go.Fw
@[reducible] def fTrNew_r0 : List (DOper × List Nat) := [
  o1 2 (.mv (.k .nil)) [2],
  o1 3 (.mv (.k (.int .i64 0))) [3]]
@[reducible] def fTrNew_r1 : List (DOper × List Nat) := [
  o1 7 (.mv (.t 0)) [],
  o1 8 (.call 21 [(.t 7)]) [7],
  o1 9 (.bin false .lss (.t 8) (.k (.int .i64 8704))) [8]]
@[reducible] def fTrNew_r2 : List (DOper × List Nat) := [
  o1 2 (.mv (.k .nil)) [],
  o1 3 (.mv (.k (.int .i64 1))) []]
@[reducible] def fTrNew_k0 : KCode := (.keep [] (.seq (.reg fTrNew_r2) .ret))
@[reducible] def fTrNew_r3 : List (DOper × List Nat) := [
  o1 11 (.mv (.t 0)) [],
  o1 12 (.call 25 [(.t 11)]) [11],
  o1 10 (.mv (.t 12)) [12],
  o1 13 (.extract 0 (.t 10)) [],
  o1 14 (.extract 1 (.t 10)) [],
  o1 15 (.extract 2 (.t 10)) [10],
  o1 4 (.alloc 42 [(.int .u32 0), (.int .u32 0), (.int .u32 0), (.int .u32 0), (.int .u8 0), (.int .u32 0), (.list 1 ⟨true, true, false⟩ [])]) [],
  (⟨⟨none, none, .store 7 (.t 4) (.t 13)⟩, 0, []⟩, [13]),
  o1 5 (.mv (.t 14)) [5, 14],
  o1 6 (.mv (.t 15)) [15]]
@[reducible] def fTrNew_r4 : List (DOper × List Nat) := [
  o1 16 (.mv (.t 6)) [],
  o1 17 (.bin false .neq (.t 16) (.k (.int .i64 0))) [16],
  o1 18 (.mv (.t 17)) [17],
  (⟨⟨(some 19), (some (18, true)), .mv (.t 6)⟩, 0, []⟩, []),
  (⟨⟨(some 20), (some (18, true)), .bin false .neq (.t 19) (.k (.int .i64 15))⟩, 0, []⟩, [19]),
  o1 21 (.pick (.t 18) (.t 20) (.k (.bool false))) [18, 20]]
@[reducible] def fTrNew_r5 : List (DOper × List Nat) := [
  o1 22 (.mv (.t 6)) [6],
  o1 2 (.mv (.k .nil)) [],
  o1 3 (.mv (.t 22)) [22]]
@[reducible] def fTrNew_k1 : KCode := (.keep [6] (.seq (.reg fTrNew_r5) .ret))
@[reducible] def fTrNew_r6 : List (DOper × List Nat) := [
  o1 23 (.mv (.t 0)) [0],
  o1 24 (.build [.nil, (.int .i64 0)] [(0, 1, (.t 23)), (1, 1, (.k (.int .i64 18)))]) [23],
  o1 25 (.load (some 7) (.t 4)) [4],
  o1 26 (.build [.nil, (.int .i64 0), (.int .u32 0), (.int .u32 0), (.int .u32 0), (.int .u32 0), (.int .u8 0), (.int .u32 0), (.list 1 ⟨true, true, false⟩ [])] [(0, 2, (.t 24)), (2, 7, (.t 25))]) [24, 25],
  o1 27 (.box 116 (.t 26)) [26],
  o1 2 (.mv (.t 27)) [27],
  o1 3 (.mv (.k (.int .i64 0))) []]
/-- bosun/transfer.New -/
@[reducible] def fTrNew : KCode := (.seq (.reg fTrNew_r0) (.seq (.seq (.reg fTrNew_r1) (.cond (.t 9) fTrNew_k0 (.kill [9] .skip))) (.keep [0] (.seq (.reg fTrNew_r3) (.seq (.seq (.reg fTrNew_r4) (.cond (.t 21) fTrNew_k1 (.kill [6, 21] .skip))) (.keep [0, 4] (.seq (.reg fTrNew_r6) .ret)))))))
@[reducible] def fTrNew_rs : List IRes := [.tmp 2, .tmp 3]
theorem fTrNew_low : lowFunc Try.prog 39 [] [] = some ⟨fTrNew.bare, fTrNew_rs, 28⟩ := by kernel_rfl

@[reducible] def fTrLoad_r0 : List (DOper × List Nat) := [
  o1 2 (.mv (.k (.list 1 ⟨true, true, false⟩ []))) [2],
  o1 3 (.mv (.k (.int .i64 0))) [3]]
@[reducible] def fTrLoad_r1 : List (DOper × List Nat) := [
  o1 4 (.mv (.t 0)) [],
  o1 5 (.nilCheck (.t 4)) [4],
  o1 6 (.fieldAddr 2 (.t 5)) [5],
  o1 7 (.fieldAddr 4 (.t 6)) [6],
  o1 8 (.load none (.t 7)) [7],
  o1 9 (.bin false .neq (.t 8) (.k (.int .u8 1))) [8]]
@[reducible] def fTrLoad_r2 : List (DOper × List Nat) := [
  o1 2 (.mv (.k (.list 1 ⟨true, true, false⟩ []))) [],
  o1 3 (.mv (.k (.int .i64 0))) []]
@[reducible] def fTrLoad_k0 : KCode := (.keep [] (.seq (.reg fTrLoad_r2) .ret))
@[reducible] def fTrLoad_r3 : List (DOper × List Nat) := [
  o1 10 (.mv (.t 0)) [],
  o2 11 1 (.nilCheck (.t 10)) [10],
  o2 12 2 (.fieldAddr 2 (.t 11)) [11],
  o2 13 3 (.fieldAddr 6 (.t 12)) [12],
  o2 14 4 (.load none (.t 13)) [13],
  o2 16 6 (.mv (.t 0)) [0],
  o2 17 7 (.nilCheck (.t 16)) [16],
  o2 18 8 (.fieldAddr 2 (.t 17)) [17],
  o2 19 9 (.fieldAddr 5 (.t 18)) [18],
  o2 20 10 (.load none (.t 19)) [19],
  o2 21 11 (.convI .i64 (.t 20)) [20],
  (⟨⟨(some 15), none, .call 55 [(.t 14)]⟩, 5, [10]⟩, [14]),
  o2 2 12 (.mv (.t 15)) [15],
  o2 3 13 (.mv (.t 21)) [21]]
/-- (*bosun/transfer.Keeper).Load -/
@[reducible] def fTrLoad : KCode := (.seq (.reg fTrLoad_r0) (.seq (.seq (.reg fTrLoad_r1) (.cond (.t 9) fTrLoad_k0 (.kill [9] .skip))) (.keep [0] (.seq (.draw fTrLoad_r3) .ret))))
@[reducible] def fTrLoad_rs : List IRes := [.tmp 2, .tmp 3]
theorem fTrLoad_low : lowFunc Try.prog 40 [] [(3, [0, 1, 2, 3, 4, 6, 7, 8, 9, 10, 11, 5, 12, 13])] = some ⟨fTrLoad.bare, fTrLoad_rs, 22⟩ := by kernel_rfl

@[reducible] def fTrPut_r0 : List (DOper × List Nat) := [
  o1 4 (.mv (.k (.int .i64 0))) [4]]
@[reducible] def fTrPut_r1 : List (DOper × List Nat) := [
  o1 8 (.mv (.t 0)) [],
  o1 9 (.nilCheck (.t 8)) [8],
  o1 10 (.fieldAddr 2 (.t 9)) [9],
  o1 11 (.fieldAddr 5 (.t 10)) [10],
  o1 12 (.load none (.t 11)) [11],
  o1 13 (.convI .i64 (.t 12)) [12],
  o1 5 (.mv (.t 13)) [13]]
@[reducible] def fTrPut_r2 : List (DOper × List Nat) := [
  o1 15 (.mv (.t 0)) [],
  o1 16 (.nilCheck (.t 15)) [15],
  o1 17 (.fieldAddr 2 (.t 16)) [16],
  o1 18 (.fieldAddr 4 (.t 17)) [17],
  o1 19 (.load none (.t 18)) [18],
  o1 20 (.bin false .neq (.t 19) (.k (.int .u8 1))) [19],
  o1 14 (.mv (.t 20)) [20]]
@[reducible] def fTrPut_r3 : List (DOper × List Nat) := [
  o1 4 (.mv (.k (.int .i64 16))) []]
@[reducible] def fTrPut_r4 : List (DOper × List Nat) := [
  o1 22 (.mv (.t 5)) [],
  o1 23 (.bin false .rem (.t 22) (.k (.int .i64 256))) [22],
  o1 24 (.bin false .neq (.t 23) (.k (.int .i64 0))) [23],
  o1 25 (.mv (.t 24)) [24],
  (⟨⟨(some 26), (some (25, false)), .mv (.t 1)⟩, 0, []⟩, []),
  (⟨⟨(some 27), (some (25, false)), .len true (.t 26)⟩, 0, []⟩, [26]),
  (⟨⟨(some 28), (some (25, false)), .mv (.t 5)⟩, 0, []⟩, []),
  (⟨⟨(some 29), (some (25, false)), .bin false .sub (.k (.int .i64 4096)) (.t 28)⟩, 0, []⟩, [28]),
  (⟨⟨(some 30), (some (25, false)), .bin false .gtr (.t 27) (.t 29)⟩, 0, []⟩, [27, 29]),
  o1 31 (.pick (.t 25) (.k (.bool true)) (.t 30)) [25, 30],
  o1 21 (.mv (.t 31)) [31]]
@[reducible] def fTrPut_r5 : List (DOper × List Nat) := [
  o1 4 (.mv (.k (.int .i64 12))) []]
@[reducible] def fTrPut_k0 : KCode := (.keep [] (.seq (.reg fTrPut_r5) .ret))
@[reducible] def fTrPut_k1 : KCode := (.keep [] (.seq (.reg fTrPut_r3) .ret))
@[reducible] def fTrPut_k2 : KCode := (.kill [14] (.seq (.reg fTrPut_r4) (.cond (.t 21) fTrPut_k0 (.kill [21] .skip))))
@[reducible] def fTrPut_r6 : List (DOper × List Nat) := [
  o1 32 (.mv (.t 0)) [],
  o1 33 (.nilCheck (.t 32)) [32],
  o1 34 (.fieldAddr 0 (.t 33)) [33],
  o1 35 (.load (some 2) (.t 34)) [34],
  o1 36 (.mv (.t 5)) [],
  o1 37 (.bin false .quo (.t 36) (.k (.int .i64 256))) [36],
  o1 38 (.mv (.t 5)) [],
  o1 39 (.mv (.t 1)) [],
  o1 40 (.len true (.t 39)) [39],
  o1 41 (.bin false .add (.t 38) (.t 40)) [38, 40],
  o1 42 (.bin false .add (.t 41) (.k (.int .i64 256))) [41],
  o1 43 (.bin false .sub (.t 42) (.k (.int .i64 1))) [42],
  o1 44 (.bin false .quo (.t 43) (.k (.int .i64 256))) [43],
  o1 45 (.call 36 [(.t 35), (.t 37), (.t 44)]) [35, 37, 44],
  o1 6 (.mv (.t 45)) [45]]
@[reducible] def fTrPut_r7 : List (DOper × List Nat) := [
  o1 46 (.mv (.t 6)) [],
  o1 47 (.bin false .neq (.t 46) (.k (.int .i64 0))) [46]]
@[reducible] def fTrPut_r8 : List (DOper × List Nat) := [
  o1 48 (.mv (.t 6)) [6],
  o1 4 (.mv (.t 48)) [48]]
@[reducible] def fTrPut_k3 : KCode := (.keep [6] (.seq (.reg fTrPut_r8) .ret))
@[reducible] def fTrPut_r9 : List (DOper × List Nat) := [
  o1 49 (.mv (.t 0)) [],
  o1 50 (.nilCheck (.t 49)) [49],
  o1 51 (.fieldAddr 0 (.t 50)) [50],
  o1 52 (.load (some 2) (.t 51)) [51],
  o1 53 (.mv (.t 5)) [],
  o1 54 (.mv (.t 1)) [],
  o1 55 (.buildF 22 1 [(.list 1 ⟨true, true, false⟩ [])] [(0, 1, (.t 54))]) [54],
  o1 56 (.call 37 [(.t 52), (.t 53), (.t 55)]) [52, 53, 55],
  o1 7 (.mv (.t 56)) [56]]
@[reducible] def fTrPut_r10 : List (DOper × List Nat) := [
  o1 57 (.mv (.t 7)) [],
  o1 58 (.bin false .neq (.t 57) (.k (.int .i64 0))) [57]]
@[reducible] def fTrPut_r11 : List (DOper × List Nat) := [
  o1 59 (.mv (.t 7)) [7],
  o1 4 (.mv (.t 59)) [59]]
@[reducible] def fTrPut_k4 : KCode := (.keep [7] (.seq (.reg fTrPut_r11) .ret))
@[reducible] def fTrPut_r12 : List (DOper × List Nat) := [
  o1 60 (.mv (.t 0)) [],
  o1 61 (.mv (.t 5)) [5],
  o1 62 (.mv (.t 1)) [1],
  o1 63 (.len true (.t 62)) [62],
  o1 64 (.bin false .add (.t 61) (.t 63)) [61, 63],
  o1 65 (.mv (.t 0)) [0],
  o1 66 (.nilCheck (.t 65)) [65],
  o1 67 (.fieldAddr 2 (.t 66)) [66],
  o1 68 (.fieldAddr 6 (.t 67)) [67],
  o1 69 (.load none (.t 68)) [68],
  o1 70 (.call 71 [(.t 60), (.k (.int .u8 1)), (.t 64), (.t 69)]) [60, 64, 69],
  o1 4 (.mv (.t 70)) [70]]
/-- (*bosun/transfer.Keeper).Put -/
@[reducible] def fTrPut : KCode := (.seq (.reg fTrPut_r0) (.seq (.reg fTrPut_r1) (.seq (.block 0 (.seq (.reg fTrPut_r2) (.cond (.t 14) fTrPut_k1 fTrPut_k2))) (.keep [0, 1, 5] (.seq (.seq (.reg fTrPut_r6) (.seq (.reg fTrPut_r7) (.cond (.t 47) fTrPut_k3 (.kill [6, 47] .skip)))) (.keep [0, 1, 5] (.seq (.seq (.reg fTrPut_r9) (.seq (.reg fTrPut_r10) (.cond (.t 58) fTrPut_k4 (.kill [7, 58] .skip)))) (.keep [0, 1, 5] (.seq (.reg fTrPut_r12) .ret)))))))))
@[reducible] def fTrPut_rs : List IRes := [.tmp 4]
theorem fTrPut_low : lowFunc Try.prog 42 [] [] = some ⟨fTrPut.bare, fTrPut_rs, 71⟩ := by kernel_rfl

@[reducible] def fTrStart_r0 : List (DOper × List Nat) := [
  o1 4 (.mv (.k (.int .i64 0))) [4]]
@[reducible] def fTrStart_r1 : List (DOper × List Nat) := [
  o1 7 (.mv (.t 0)) [],
  o1 8 (.call 71 [(.t 7), (.k (.int .u8 0)), (.k (.int .i64 0)), (.k (.list 1 ⟨true, true, false⟩ []))]) [7],
  o1 5 (.mv (.t 8)) [8]]
@[reducible] def fTrStart_r2 : List (DOper × List Nat) := [
  o1 9 (.mv (.t 5)) [],
  o1 10 (.bin false .neq (.t 9) (.k (.int .i64 0))) [9]]
@[reducible] def fTrStart_r3 : List (DOper × List Nat) := [
  o1 11 (.mv (.t 5)) [5],
  o1 4 (.mv (.t 11)) [11]]
@[reducible] def fTrStart_k0 : KCode := (.keep [5] (.seq (.reg fTrStart_r3) .ret))
@[reducible] def fTrStart_r4 : List (DOper × List Nat) := [
  o1 12 (.mv (.t 0)) [],
  o1 13 (.nilCheck (.t 12)) [12],
  o1 14 (.fieldAddr 0 (.t 13)) [13],
  o1 15 (.load (some 2) (.t 14)) [14],
  o1 16 (.call 36 [(.t 15), (.k (.int .i64 0)), (.k (.int .i64 16))]) [15],
  o1 6 (.mv (.t 16)) [16]]
@[reducible] def fTrStart_r5 : List (DOper × List Nat) := [
  o1 17 (.mv (.t 6)) [],
  o1 18 (.bin false .neq (.t 17) (.k (.int .i64 0))) [17]]
@[reducible] def fTrStart_r6 : List (DOper × List Nat) := [
  o1 19 (.mv (.t 6)) [6],
  o1 4 (.mv (.t 19)) [19]]
@[reducible] def fTrStart_k1 : KCode := (.keep [6] (.seq (.reg fTrStart_r6) .ret))
@[reducible] def fTrStart_r7 : List (DOper × List Nat) := [
  o1 20 (.mv (.t 0)) [0],
  o1 21 (.mv (.t 1)) [1],
  o1 22 (.call 71 [(.t 20), (.k (.int .u8 1)), (.k (.int .i64 0)), (.t 21)]) [20, 21],
  o1 4 (.mv (.t 22)) [22]]
/-- (*bosun/transfer.Keeper).Start -/
@[reducible] def fTrStart : KCode := (.seq (.reg fTrStart_r0) (.seq (.seq (.reg fTrStart_r1) (.seq (.reg fTrStart_r2) (.cond (.t 10) fTrStart_k0 (.kill [5, 10] .skip)))) (.keep [0, 1] (.seq (.seq (.reg fTrStart_r4) (.seq (.reg fTrStart_r5) (.cond (.t 18) fTrStart_k1 (.kill [6, 18] .skip)))) (.keep [0, 1] (.seq (.reg fTrStart_r7) .ret))))))
@[reducible] def fTrStart_rs : List IRes := [.tmp 4]
theorem fTrStart_low : lowFunc Try.prog 43 [] [] = some ⟨fTrStart.bare, fTrStart_rs, 23⟩ := by kernel_rfl

@[reducible] def fTrSave_r0 : List (DOper × List Nat) := [
  o1 8 (.mv (.k (.int .i64 0))) [8]]
@[reducible] def fTrSave_r1 : List (DOper × List Nat) := [
  o1 11 (.mv (.t 0)) [],
  o1 12 (.nilCheck (.t 11)) [11],
  o1 13 (.fieldAddr 2 (.t 12)) [12],
  o1 14 (.load (some 7) (.t 13)) [13],
  o1 9 (.alloc 42 [(.int .u32 0), (.int .u32 0), (.int .u32 0), (.int .u32 0), (.int .u8 0), (.int .u32 0), (.list 1 ⟨true, true, false⟩ [])]) [],
  (⟨⟨none, none, .store 7 (.t 9) (.t 14)⟩, 0, []⟩, [14])]
@[reducible] def fTrSave_r2 : List (DOper × List Nat) := [
  o1 15 (.mv (.t 1)) [1],
  o1 16 (.mv (.t 2)) [2],
  o1 17 (.convI .u32 (.t 16)) [16],
  o1 18 (.mv (.t 3)) [3],
  o1 19 (.call 55 [(.t 18)]) [18],
  o1 20 (.fieldAddr 4 (.t 9)) [],
  (⟨⟨none, none, .store 1 (.t 20) (.t 15)⟩, 0, []⟩, [15, 20]),
  o1 21 (.fieldAddr 5 (.t 9)) [],
  (⟨⟨none, none, .store 1 (.t 21) (.t 17)⟩, 0, []⟩, [17, 21]),
  o1 22 (.fieldAddr 6 (.t 9)) [],
  (⟨⟨none, none, .store 1 (.t 22) (.t 19)⟩, 0, []⟩, [19, 22])]
@[reducible] def fTrSave_r3 : List (DOper × List Nat) := [
  o1 24 (.mv (.t 0)) [],
  o2 25 1 (.nilCheck (.t 24)) [24],
  o2 26 2 (.fieldAddr 0 (.t 25)) [25],
  o2 27 3 (.fieldAddr 0 (.t 26)) [26],
  o2 28 4 (.load none (.t 27)) [27],
  o2 29 5 (.load (some 7) (.t 9)) [],
  o2 30 6 (.call 26 [(.t 28), (.t 29)]) [28, 29],
  o2 23 7 (.mv (.t 30)) [30],
  o2 31 8 (.extract 0 (.t 23)) [],
  o2 32 9 (.extract 1 (.t 23)) [23],
  (⟨⟨none, none, .store 7 (.t 9) (.t 31)⟩, 10, []⟩, [31]),
  o2 10 11 (.mv (.t 32)) [32]]
@[reducible] def fTrSave_r4 : List (DOper × List Nat) := [
  o1 33 (.mv (.t 10)) [],
  o1 34 (.bin false .eql (.t 33) (.k (.int .i64 0))) [33]]
@[reducible] def fTrSave_r5 : List (DOper × List Nat) := [
  o1 35 (.mv (.t 0)) [0],
  o1 36 (.load (some 7) (.t 9)) [9],
  o1 37 (.nilCheck (.t 35)) [35],
  o1 38 (.fieldAddr 2 (.t 37)) [37],
  (⟨⟨none, none, .store 7 (.t 38) (.t 36)⟩, 0, []⟩, [36, 38])]
@[reducible] def fTrSave_k0 : KCode := (.kill [34] (.reg fTrSave_r5))
@[reducible] def fTrSave_r6 : List (DOper × List Nat) := [
  o1 39 (.mv (.t 10)) [10],
  o1 8 (.mv (.t 39)) [39]]
/-- (*bosun/transfer.Keeper).save -/
@[reducible] def fTrSave : KCode := (.seq (.reg fTrSave_r0) (.seq (.reg fTrSave_r1) (.seq (.reg fTrSave_r2) (.seq (.draw fTrSave_r3) (.seq (.seq (.reg fTrSave_r4) (.cond (.t 34) fTrSave_k0 (.keep [10] .skip))) (.keep [10] (.seq (.reg fTrSave_r6) .ret)))))))
@[reducible] def fTrSave_rs : List IRes := [.tmp 8]
theorem fTrSave_low : lowFunc Try.prog 71 [] [] = some ⟨fTrSave.bare, fTrSave_rs, 40⟩ := by kernel_rfl

@[reducible] def fTrImage_r0 : List (DOper × List Nat) := [
  o1 2 (.mv (.k (.list 1 ⟨true, true, false⟩ []))) [2],
  o1 3 (.mv (.k (.int .i64 0))) [3]]
@[reducible] def fTrImage_r1 : List (DOper × List Nat) := [
  o1 7 (.mv (.t 0)) [],
  o1 8 (.call 40 [(.t 7)]) [7],
  o1 6 (.mv (.t 8)) [8],
  o1 9 (.extract 0 (.t 6)) [],
  o1 10 (.extract 1 (.t 6)) [6],
  o1 4 (.mv (.t 9)) [4, 9],
  o1 5 (.mv (.t 10)) [10]]
@[reducible] def fTrImage_r2 : List (DOper × List Nat) := [
  o1 11 (.mv (.t 0)) [0],
  o1 12 (.nilCheck (.t 11)) [11],
  o1 13 (.fieldAddr 0 (.t 12)) [12],
  o1 14 (.load (some 2) (.t 13)) [13],
  o1 15 (.mv (.t 5)) [5],
  o1 16 (.call 33 [(.t 14), (.k (.int .i64 0)), (.t 15)]) [14, 15],
  o1 17 (.extract 0 (.t 16)) [],
  o1 18 (.extract 1 (.t 16)) [16],
  o1 2 (.mv (.t 17)) [17],
  o1 3 (.mv (.t 18)) [18]]
/-- (*bosun/transfer.Keeper).Image -/
@[reducible] def fTrImage : KCode := (.seq (.reg fTrImage_r0) (.seq (.reg fTrImage_r1) (.seq (.reg fTrImage_r2) .ret)))
@[reducible] def fTrImage_rs : List IRes := [.tmp 2, .tmp 3]
theorem fTrImage_low : lowFunc Try.prog 51 [] [] = some ⟨fTrImage.bare, fTrImage_rs, 19⟩ := by kernel_rfl

@[reducible] def fTrLives_r0 : List (DOper × List Nat) := [
  o1 0 (.mv (.k (.bool false))) [0]]
@[reducible] def fTrLives_r1 : List (DOper × List Nat) := [
  o1 10 (.call 13 [(.k (.int .i64 34))]) [],
  o1 9 (.mv (.t 10)) [10],
  o1 11 (.extract 0 (.t 9)) [],
  o1 12 (.extract 1 (.t 9)) [9],
  o1 1 (.mv (.t 11)) [11],
  o1 2 (.mv (.t 12)) [2, 12]]
@[reducible] def fTrLives_r2 : List (DOper × List Nat) := [
  o1 14 (.mv (.t 1)) [],
  o1 15 (.call 39 [(.t 14)]) [14],
  o1 13 (.mv (.t 15)) [15],
  o1 16 (.extract 0 (.t 13)) [],
  o1 17 (.extract 1 (.t 13)) [13],
  o1 3 (.mv (.t 16)) [16],
  o1 4 (.mv (.t 17)) [17]]
@[reducible] def fTrLives_r3 : List (DOper × List Nat) := [
  o1 18 (.mv (.t 4)) [4],
  o1 19 (.bin false .neq (.t 18) (.k (.int .i64 0))) [18],
  o1 20 (.mv (.t 19)) [19],
  (⟨⟨(some 21), (some (20, false)), .mv (.t 3)⟩, 0, []⟩, []),
  (⟨⟨(some 22), (some (20, false)), .buildO 5 1 [(.int .u8 0), (.int .u8 0), (.int .u8 0), (.int .u8 0)] [(0, 1, (.k (.int .u8 105))), (1, 1, (.k (.int .u8 110))), (2, 1, (.k (.int .u8 105))), (3, 1, (.k (.int .u8 116)))]⟩, 0, []⟩, []),
  (⟨⟨(some 23), (some (20, false)), .cvt (.t 22)⟩, 0, []⟩, [22]),
  (⟨⟨(some 24), (some (20, false)), .call 43 [(.t 21), (.t 23)]⟩, 0, []⟩, [21, 23]),
  (⟨⟨(some 25), (some (20, false)), .bin false .neq (.t 24) (.k (.int .i64 0))⟩, 0, []⟩, [24]),
  o1 26 (.pick (.t 20) (.k (.bool true)) (.t 25)) [20, 25],
  o1 27 (.mv (.t 26)) [26],
  (⟨⟨(some 28), (some (27, false)), .mv (.t 3)⟩, 0, []⟩, [3]),
  (⟨⟨(some 29), (some (27, false)), .makeS 5 1 1 [(.int .u8 0)] (.k (.int .i64 1024)) (.k (.int .i64 1024))⟩, 0, []⟩, []),
  (⟨⟨(some 30), (some (27, false)), .call 42 [(.t 28), (.t 29)]⟩, 0, []⟩, [28, 29]),
  (⟨⟨(some 31), (some (27, false)), .bin false .neq (.t 30) (.k (.int .i64 0))⟩, 0, []⟩, [30]),
  o1 32 (.pick (.t 27) (.k (.bool true)) (.t 31)) [27, 31]]
@[reducible] def fTrLives_r4 : List (DOper × List Nat) := [
  o1 0 (.mv (.k (.bool false))) []]
@[reducible] def fTrLives_k0 : KCode := (.keep [] (.seq (.reg fTrLives_r4) .ret))
@[reducible] def fTrLives_r5 : List (DOper × List Nat) := [
  o1 34 (.mv (.t 1)) [1],
  o1 35 (.call 39 [(.t 34)]) [34],
  o1 33 (.mv (.t 35)) [35],
  o1 36 (.extract 0 (.t 33)) [],
  o1 37 (.extract 1 (.t 33)) [33],
  o1 5 (.mv (.t 36)) [36],
  o1 6 (.mv (.t 37)) [37]]
@[reducible] def fTrLives_r6 : List (DOper × List Nat) := [
  o1 38 (.mv (.t 6)) [6],
  o1 39 (.bin false .neq (.t 38) (.k (.int .i64 0))) [38]]
@[reducible] def fTrLives_r7 : List (DOper × List Nat) := [
  o1 0 (.mv (.k (.bool false))) []]
@[reducible] def fTrLives_k1 : KCode := (.keep [] (.seq (.reg fTrLives_r7) .ret))
@[reducible] def fTrLives_r8 : List (DOper × List Nat) := [
  o1 41 (.mv (.t 5)) [5],
  o1 42 (.call 40 [(.t 41)]) [41],
  o1 40 (.mv (.t 42)) [42],
  o1 43 (.extract 0 (.t 40)) [],
  o1 44 (.extract 1 (.t 40)) [40],
  o1 7 (.mv (.t 43)) [43],
  o1 8 (.mv (.t 44)) [44]]
@[reducible] def fTrLives_r9 : List (DOper × List Nat) := [
  o1 45 (.mv (.t 7)) [7],
  o1 46 (.toStr (.t 45)) [45],
  o1 47 (.bin false .eql (.t 46) (.k (.str [105, 110, 105, 116]))) [46],
  o1 48 (.mv (.t 47)) [47],
  (⟨⟨(some 49), (some (48, true)), .mv (.t 8)⟩, 0, []⟩, [8]),
  (⟨⟨(some 50), (some (48, true)), .bin false .eql (.t 49) (.k (.int .i64 1024))⟩, 0, []⟩, [49]),
  o1 51 (.pick (.t 48) (.t 50) (.k (.bool false))) [48, 50],
  o1 0 (.mv (.t 51)) [51]]
/-- bosun/bosunlaw18.lives -/
@[reducible] def fTrLives : KCode := (.seq (.reg fTrLives_r0) (.seq (.reg fTrLives_r1) (.seq (.reg fTrLives_r2) (.seq (.seq (.reg fTrLives_r3) (.cond (.t 32) fTrLives_k0 (.kill [32] .skip))) (.keep [1] (.seq (.reg fTrLives_r5) (.seq (.seq (.reg fTrLives_r6) (.cond (.t 39) fTrLives_k1 (.kill [39] .skip))) (.keep [5] (.seq (.reg fTrLives_r8) (.seq (.reg fTrLives_r9) .ret))))))))))
@[reducible] def fTrLives_rs : List IRes := [.tmp 0]
theorem fTrLives_low : lowFunc Try.prog 38 [(3, 4)] [] = some ⟨fTrLives.bare, fTrLives_rs, 52⟩ := by kernel_rfl

@[reducible] def fTrKeeps_r0 : List (DOper × List Nat) := [
  o1 6 (.mv (.k (.bool false))) [6]]
@[reducible] def fTrKeeps_r1 : List (DOper × List Nat) := [
  o1 20 (.call 38 []) [],
  o1 21 (.un .not (.t 20)) [20],
  o1 22 (.mv (.t 21)) [21],
  (⟨⟨(some 23), (some (22, false)), .mv (.t 0)⟩, 0, []⟩, []),
  (⟨⟨(some 24), (some (22, false)), .len true (.t 23)⟩, 0, []⟩, [23]),
  (⟨⟨(some 25), (some (22, false)), .bin false .gtr (.t 24) (.k (.int .i64 4096))⟩, 0, []⟩, [24]),
  o1 26 (.pick (.t 22) (.k (.bool true)) (.t 25)) [22, 25],
  o1 27 (.mv (.t 26)) [26],
  (⟨⟨(some 28), (some (27, false)), .mv (.t 1)⟩, 0, []⟩, []),
  (⟨⟨(some 29), (some (27, false)), .len true (.t 28)⟩, 0, []⟩, [28]),
  (⟨⟨(some 30), (some (27, false)), .bin false .gtr (.t 29) (.k (.int .i64 20))⟩, 0, []⟩, [29]),
  o1 31 (.pick (.t 27) (.k (.bool true)) (.t 30)) [27, 30]]
@[reducible] def fTrKeeps_r2 : List (DOper × List Nat) := [
  o1 32 (.call 38 []) [],
  o1 6 (.mv (.t 32)) [32]]
@[reducible] def fTrKeeps_k0 : KCode := (.keep [] (.seq (.reg fTrKeeps_r2) .ret))
@[reducible] def fTrKeeps_r3 : List (DOper × List Nat) := [
  o1 34 (.call 13 [(.k (.int .i64 34))]) [],
  o1 33 (.mv (.t 34)) [34],
  o1 35 (.extract 0 (.t 33)) [],
  o1 36 (.extract 1 (.t 33)) [33],
  o1 7 (.mv (.t 35)) [35],
  o1 8 (.mv (.t 36)) [8, 36]]
@[reducible] def fTrKeeps_r4 : List (DOper × List Nat) := [
  o1 38 (.mv (.t 7)) [],
  o1 39 (.call 39 [(.t 38)]) [38],
  o1 37 (.mv (.t 39)) [39],
  o1 40 (.extract 0 (.t 37)) [],
  o1 41 (.extract 1 (.t 37)) [37],
  o1 9 (.mv (.t 40)) [40],
  o1 10 (.mv (.t 41)) [41]]
@[reducible] def fTrKeeps_r5 : List (DOper × List Nat) := [
  o1 42 (.mv (.t 10)) [10],
  o1 43 (.bin false .neq (.t 42) (.k (.int .i64 0))) [42],
  o1 44 (.mv (.t 43)) [43],
  (⟨⟨(some 45), (some (44, false)), .mv (.t 9)⟩, 0, []⟩, []),
  (⟨⟨(some 46), (some (44, false)), .buildO 5 1 [(.int .u8 0), (.int .u8 0), (.int .u8 0), (.int .u8 0), (.int .u8 0), (.int .u8 0)] [(0, 1, (.k (.int .u8 112))), (1, 1, (.k (.int .u8 97))), (2, 1, (.k (.int .u8 99))), (3, 1, (.k (.int .u8 107))), (4, 1, (.k (.int .u8 101))), (5, 1, (.k (.int .u8 116)))]⟩, 0, []⟩, []),
  (⟨⟨(some 47), (some (44, false)), .cvt (.t 46)⟩, 0, []⟩, [46]),
  (⟨⟨(some 48), (some (44, false)), .call 43 [(.t 45), (.t 47)]⟩, 0, []⟩, [45, 47]),
  (⟨⟨(some 49), (some (44, false)), .bin false .neq (.t 48) (.k (.int .i64 0))⟩, 0, []⟩, [48]),
  o1 50 (.pick (.t 44) (.k (.bool true)) (.t 49)) [44, 49]]
@[reducible] def fTrKeeps_r6 : List (DOper × List Nat) := [
  o1 6 (.mv (.k (.bool false))) []]
@[reducible] def fTrKeeps_k1 : KCode := (.keep [] (.seq (.reg fTrKeeps_r6) .ret))
@[reducible] def fTrKeeps_r7 : List (DOper × List Nat) := [
  o1 11 (.mv (.k (.int .i64 0))) []]
@[reducible] def fTrKeeps_r8 : List (DOper × List Nat) := [
  o1 51 (.mv (.t 11)) [],
  o1 52 (.bin false .lss (.t 51) (.k (.int .i64 40))) [51]]
@[reducible] def fTrKeeps_r9 : List (DOper × List Nat) := [
  o1 56 (.mv (.t 9)) [],
  o1 57 (.call 40 [(.t 56)]) [56],
  o1 55 (.mv (.t 57)) [57],
  o1 58 (.extract 0 (.t 55)) [],
  o1 59 (.extract 1 (.t 55)) [55],
  o1 12 (.mv (.t 58)) [58],
  o1 13 (.mv (.t 59)) [59]]
@[reducible] def fTrKeeps_r10 : List (DOper × List Nat) := [
  o1 61 (.mv (.t 9)) [],
  o1 62 (.call 51 [(.t 61)]) [61],
  o1 60 (.mv (.t 62)) [62],
  o1 63 (.extract 0 (.t 60)) [],
  o1 64 (.extract 1 (.t 60)) [60],
  o1 14 (.mv (.t 63)) [63],
  o1 15 (.mv (.t 64)) [64]]
@[reducible] def fTrKeeps_r11 : List (DOper × List Nat) := [
  o1 65 (.mv (.t 12)) [12],
  o2 66 1 (.toStr (.t 65)) [65],
  o2 67 2 (.bin false .neq (.t 66) (.k (.str [112, 97, 99, 107, 101, 116]))) [66],
  o2 68 3 (.mv (.t 67)) [67],
  (⟨⟨(some 69), (some (68, false)), .mv (.t 15)⟩, 4, []⟩, [15]),
  (⟨⟨(some 70), (some (68, false)), .bin false .neq (.t 69) (.k (.int .i64 0))⟩, 5, []⟩, [69]),
  o2 71 6 (.pick (.t 68) (.k (.bool true)) (.t 70)) [68, 70],
  o2 72 7 (.mv (.t 71)) [71],
  (⟨⟨(some 73), (some (72, false)), .mv (.t 13)⟩, 8, []⟩, []),
  (⟨⟨(some 74), (some (72, false)), .mv (.t 0)⟩, 9, []⟩, []),
  (⟨⟨(some 75), (some (72, false)), .len true (.t 74)⟩, 10, []⟩, [74]),
  (⟨⟨(some 76), (some (72, false)), .bin false .gtr (.t 73) (.t 75)⟩, 11, []⟩, [73, 75]),
  o2 77 12 (.pick (.t 72) (.k (.bool true)) (.t 76)) [72, 76],
  o2 78 13 (.mv (.t 77)) [77],
  (⟨⟨(some 79), (some (78, false)), .mv (.t 14)⟩, 14, []⟩, [14]),
  (⟨⟨(some 80), (some (78, false)), .toStr (.t 79)⟩, 15, []⟩, [79]),
  (⟨⟨(some 81), (some (78, false)), .mv (.t 0)⟩, 16, []⟩, []),
  (⟨⟨(some 82), (some (78, false)), .mv (.t 13)⟩, 17, []⟩, []),
  (⟨⟨(some 83), (some (78, false)), .slS 1 (.t 81) none (some (.t 82)) none⟩, 18, []⟩, [81, 82]),
  (⟨⟨(some 84), (some (78, false)), .toStr (.t 83)⟩, 19, []⟩, [83]),
  (⟨⟨(some 85), (some (78, false)), .bin false .neq (.t 80) (.t 84)⟩, 20, []⟩, [80, 84]),
  o2 86 21 (.pick (.t 78) (.k (.bool true)) (.t 85)) [78, 85]]
@[reducible] def fTrKeeps_r12 : List (DOper × List Nat) := [
  o1 6 (.mv (.k (.bool false))) []]
@[reducible] def fTrKeeps_k2 : KCode := (.keep [] (.seq (.reg fTrKeeps_r12) .ret))
@[reducible] def fTrKeeps_r13 : List (DOper × List Nat) := [
  o1 87 (.mv (.t 13)) [],
  o1 88 (.mv (.t 0)) [],
  o1 89 (.len true (.t 88)) [88],
  o1 90 (.bin false .eql (.t 87) (.t 89)) [87, 89]]
@[reducible] def fTrKeeps_r14 : List (DOper × List Nat) := [
  o1 6 (.mv (.k (.bool true))) []]
@[reducible] def fTrKeeps_k3 : KCode := (.keep [] (.seq (.reg fTrKeeps_r14) .ret))
@[reducible] def fTrKeeps_r15 : List (DOper × List Nat) := [
  o1 91 (.mv (.t 0)) [],
  o1 92 (.mv (.t 13)) [],
  o1 93 (.mv (.t 13)) [],
  o1 94 (.bin false .add (.t 93) (.k (.int .i64 1024))) [93],
  o1 95 (.mv (.t 0)) [],
  o1 96 (.len true (.t 95)) [95],
  o1 97 (.min (.t 94) (.t 96)) [94, 96],
  o1 98 (.slS 1 (.t 91) (some (.t 92)) (some (.t 97)) none) [91, 92, 97],
  o1 16 (.mv (.t 98)) [98]]
@[reducible] def fTrKeeps_r16 : List (DOper × List Nat) := [
  o1 99 (.mv (.t 11)) [],
  o1 100 (.mv (.t 1)) [],
  o1 101 (.len true (.t 100)) [100],
  o1 102 (.bin false .lss (.t 99) (.t 101)) [99, 101]]
@[reducible] def fTrKeeps_r17 : List (DOper × List Nat) := [
  o1 103 (.mv (.t 7)) [],
  o1 104 (.mv (.t 1)) [],
  o1 105 (.mv (.t 11)) [],
  o1 106 (.idxS 1 (.t 104) (.t 105)) [104, 105],
  o1 107 (.load none (.t 106)) [106],
  o1 108 (.convI .u64 (.t 107)) [107],
  o1 109 (.bin false .rem (.t 108) (.k (.int .u64 400))) [108],
  o1 110 (.convI .i64 (.t 109)) [109],
  o1 111 (.mv (.t 2)) [],
  o1 112 (.mv (.t 11)) [],
  o1 113 (.convI .u32 (.t 112)) [112],
  o1 114 (.bin false .mul (.t 113) (.k (.int .u32 2654435769))) [113],
  o1 115 (.bin false .xor (.t 111) (.t 114)) [111, 114],
  o1 116 (.call 14 [(.t 103), (.t 110), (.t 115)]) [103, 110, 115, 116]]
@[reducible] def fTrKeeps_k4 : KCode := (.kill [102] (.reg fTrKeeps_r17))
@[reducible] def fTrKeeps_r18 : List (DOper × List Nat) := [
  o1 117 (.mv (.t 9)) [9],
  o1 118 (.mv (.t 16)) [],
  o1 119 (.call 42 [(.t 117), (.t 118)]) [117, 118],
  o1 17 (.mv (.t 119)) [119]]
@[reducible] def fTrKeeps_r19 : List (DOper × List Nat) := [
  o1 120 (.mv (.t 7)) [],
  o1 121 (.call 17 [(.t 120)]) [120, 121]]
@[reducible] def fTrKeeps_r20 : List (DOper × List Nat) := [
  o1 123 (.mv (.t 7)) [],
  o1 124 (.call 39 [(.t 123)]) [123],
  o1 122 (.mv (.t 124)) [124],
  o1 125 (.extract 0 (.t 122)) [],
  o1 126 (.extract 1 (.t 122)) [122],
  o1 9 (.mv (.t 125)) [125],
  o1 10 (.mv (.t 126)) [126]]
@[reducible] def fTrKeeps_r21 : List (DOper × List Nat) := [
  o1 127 (.mv (.t 10)) [10],
  o1 128 (.bin false .neq (.t 127) (.k (.int .i64 0))) [127]]
@[reducible] def fTrKeeps_r22 : List (DOper × List Nat) := [
  o1 6 (.mv (.k (.bool false))) []]
@[reducible] def fTrKeeps_k5 : KCode := (.keep [] (.seq (.reg fTrKeeps_r22) .ret))
@[reducible] def fTrKeeps_r23 : List (DOper × List Nat) := [
  o1 130 (.mv (.t 9)) [],
  o1 131 (.call 40 [(.t 130)]) [130],
  o1 129 (.mv (.t 131)) [131],
  o1 132 (.extract 0 (.t 129)) [],
  o1 133 (.extract 1 (.t 129)) [129],
  o1 18 (.mv (.t 132)) [18, 132],
  o1 19 (.mv (.t 133)) [133]]
@[reducible] def fTrKeeps_r24 : List (DOper × List Nat) := [
  o1 134 (.mv (.t 17)) [],
  o1 135 (.bin false .eql (.t 134) (.k (.int .i64 0))) [134],
  o1 136 (.mv (.t 135)) [135],
  (⟨⟨(some 137), (some (136, true)), .mv (.t 19)⟩, 0, []⟩, []),
  (⟨⟨(some 138), (some (136, true)), .mv (.t 13)⟩, 0, []⟩, []),
  (⟨⟨(some 139), (some (136, true)), .mv (.t 16)⟩, 0, []⟩, []),
  (⟨⟨(some 140), (some (136, true)), .len true (.t 139)⟩, 0, []⟩, [139]),
  (⟨⟨(some 141), (some (136, true)), .bin false .add (.t 138) (.t 140)⟩, 0, []⟩, [138, 140]),
  (⟨⟨(some 142), (some (136, true)), .bin false .neq (.t 137) (.t 141)⟩, 0, []⟩, [137, 141]),
  o1 143 (.pick (.t 136) (.t 142) (.k (.bool false))) [136, 142],
  o1 144 (.mv (.t 143)) [143],
  (⟨⟨(some 145), (some (144, false)), .mv (.t 17)⟩, 0, []⟩, []),
  (⟨⟨(some 146), (some (144, false)), .bin false .neq (.t 145) (.k (.int .i64 0))⟩, 0, []⟩, [145]),
  (⟨⟨(some 147), (some (144, false)), .mv (.t 146)⟩, 0, []⟩, [146]),
  (⟨⟨(some 148), (some (147, true)), .mv (.t 17)⟩, 0, []⟩, [17]),
  (⟨⟨(some 149), (some (147, true)), .bin false .neq (.t 148) (.k (.int .i64 5))⟩, 0, []⟩, [148]),
  (⟨⟨(some 150), (some (147, true)), .mv (.t 149)⟩, 0, []⟩, [149]),
  (⟨⟨(some 151), (some (150, false)), .mv (.t 19)⟩, 0, []⟩, []),
  (⟨⟨(some 152), (some (150, false)), .mv (.t 13)⟩, 0, []⟩, []),
  (⟨⟨(some 153), (some (150, false)), .bin false .neq (.t 151) (.t 152)⟩, 0, []⟩, [151, 152]),
  (⟨⟨(some 154), (some (150, false)), .mv (.t 153)⟩, 0, []⟩, [153]),
  (⟨⟨(some 155), (some (154, true)), .mv (.t 19)⟩, 0, []⟩, [19]),
  (⟨⟨(some 156), (some (154, true)), .mv (.t 13)⟩, 0, []⟩, [13]),
  (⟨⟨(some 157), (some (154, true)), .mv (.t 16)⟩, 0, []⟩, [16]),
  (⟨⟨(some 158), (some (154, true)), .len true (.t 157)⟩, 0, []⟩, [157]),
  (⟨⟨(some 159), (some (154, true)), .bin false .add (.t 156) (.t 158)⟩, 0, []⟩, [156, 158]),
  (⟨⟨(some 160), (some (154, true)), .bin false .neq (.t 155) (.t 159)⟩, 0, []⟩, [155, 159]),
  (⟨⟨(some 161), (some (150, false)), .pick (.t 154) (.t 160) (.k (.bool false))⟩, 0, []⟩, [154, 160]),
  (⟨⟨(some 162), (some (147, true)), .pick (.t 150) (.k (.bool true)) (.t 161)⟩, 0, []⟩, [150, 161]),
  (⟨⟨(some 163), (some (144, false)), .pick (.t 147) (.t 162) (.k (.bool false))⟩, 0, []⟩, [147, 162]),
  o1 164 (.pick (.t 144) (.k (.bool true)) (.t 163)) [144, 163]]
@[reducible] def fTrKeeps_r25 : List (DOper × List Nat) := [
  o1 6 (.mv (.k (.bool false))) []]
@[reducible] def fTrKeeps_k6 : KCode := (.keep [] (.seq (.reg fTrKeeps_r25) .ret))
@[reducible] def fTrKeeps_r26 : List (DOper × List Nat) := [
  o1 53 (.mv (.t 11)) [11],
  o1 54 (.bin false .add (.t 53) (.k (.int .i64 1))) [53],
  o1 11 (.mv (.t 54)) [54]]
/-- live: [0, 1, 2, 7, 9, 11] -/
@[reducible] def fTrKeeps_l7 : KCode := (.seq (.seq (.reg fTrKeeps_r8) (.cond (.t 52) (.kill [52] .skip) (.keep [] (.exit 0)))) (.kill [51, 52] (.seq (.block 1 (.seq (.reg fTrKeeps_r9) (.seq (.reg fTrKeeps_r10) (.seq (.seq (.draw fTrKeeps_r11) (.cond (.t 86) fTrKeeps_k2 (.kill [86] .skip))) (.keep [0, 1, 2, 7, 9, 11, 13] (.seq (.seq (.reg fTrKeeps_r13) (.cond (.t 90) fTrKeeps_k3 (.kill [90] .skip))) (.kill [6, 87, 88, 89, 90] (.seq (.reg fTrKeeps_r15) (.seq (.seq (.reg fTrKeeps_r16) (.cond (.t 102) fTrKeeps_k4 (.kill [102] .skip))) (.keep [0, 1, 2, 7, 9, 11, 13, 16] (.seq (.reg fTrKeeps_r18) (.seq (.reg fTrKeeps_r19) (.seq (.reg fTrKeeps_r20) (.seq (.seq (.reg fTrKeeps_r21) (.cond (.t 128) fTrKeeps_k5 (.kill [128] .skip))) (.kill [6, 10, 127, 128] (.seq (.reg fTrKeeps_r23) (.seq (.reg fTrKeeps_r24) (.cond (.t 164) fTrKeeps_k6 (.kill [164] .skip))))))))))))))))))) (.keep [0, 1, 2, 7, 9, 11] (.reg fTrKeeps_r26)))))
@[reducible] def fTrKeeps_r27 : List (DOper × List Nat) := [
  o1 6 (.mv (.k (.bool false))) []]
/-- bosun/bosunlaw18.TransferKeeps -/
@[reducible] def fTrKeeps : KCode := (.seq (.reg fTrKeeps_r0) (.seq (.seq (.reg fTrKeeps_r1) (.cond (.t 31) fTrKeeps_k0 (.kill [31] .skip))) (.keep [0, 1, 2] (.seq (.reg fTrKeeps_r3) (.seq (.reg fTrKeeps_r4) (.seq (.seq (.reg fTrKeeps_r5) (.cond (.t 50) fTrKeeps_k1 (.kill [50] .skip))) (.keep [0, 1, 2, 7, 9] (.seq (.seq (.reg fTrKeeps_r7) (.block 0 (.loop fTrKeeps_l7))) (.keep [] (.seq (.reg fTrKeeps_r27) .ret))))))))))
@[reducible] def fTrKeeps_rs : List IRes := [.tmp 6]
theorem fTrKeeps_low : lowFunc Try.prog 11 [(5, 4)] [] = some ⟨fTrKeeps.bare, fTrKeeps_rs, 165⟩ := by kernel_rfl

end Go.Proofs.Ytjehncilahjmdaa
