/-
  Codes of functions.
-/
import Derived.Test.YtjehncilahjmdaadF5
import Derived.Test.YtjehncilahjmdaaRows
set_option linter.unusedSimpArgs false
set_option linter.unnecessarySimpa false
set_option linter.unusedVariables false
set_option linter.unusedSectionVars false
namespace Go.Proofs.Ytjehncilahjmdaa
open Go.Fw
@[reducible] def fSetRead_r0 : List (DOper × List Nat) := [
  o1 4 (.alloc 100 [(.int .u32 0), (.int .u32 0), (.int .u32 0), (.int .u32 0), (.int .u8 0), (.int .u32 0), (.list 1 ⟨true, true, false⟩ []), (.int .i64 0)]) [],
  o1 5 (.mv (.k (.bool false))) [5]]
@[reducible] def fSetRead_r1 : List (DOper × List Nat) := [
  o1 11 (.mv (.t 0)) [0],
  o1 12 (.mv (.t 1)) [],
  o1 13 (.bin false .mul (.t 12) (.k (.int .i64 256))) [12],
  o1 14 (.call 18 [(.t 11), (.t 13), (.k (.int .i64 160))]) [11, 13],
  o1 10 (.mv (.t 14)) [14],
  o1 15 (.extract 0 (.t 10)) [],
  o1 16 (.extract 1 (.t 10)) [10],
  o1 6 (.mv (.t 15)) [15],
  o1 7 (.mv (.t 16)) [7, 16]]
@[reducible] def fSetRead_r2 : List (DOper × List Nat) := [
  o1 18 (.mv (.t 6)) [6],
  o1 19 (.call 85 [(.t 18)]) [18],
  o1 17 (.mv (.t 19)) [19],
  o1 20 (.extract 0 (.t 17)) [],
  o1 21 (.extract 1 (.t 17)) [17],
  o1 8 (.alloc 42 [(.int .u32 0), (.int .u32 0), (.int .u32 0), (.int .u32 0), (.int .u8 0), (.int .u32 0), (.list 1 ⟨true, true, false⟩ [])]) [],
  (⟨⟨none, none, .store 7 (.t 8) (.t 20)⟩, 0, []⟩, [20]),
  o1 9 (.mv (.t 21)) [21]]
@[reducible] def fSetRead_r3 : List (DOper × List Nat) := [
  o1 22 (.load (some 7) (.t 8)) [8],
  o1 23 (.mv (.t 1)) [1],
  o1 24 (.build [(.int .u32 0), (.int .u32 0), (.int .u32 0), (.int .u32 0), (.int .u8 0), (.int .u32 0), (.list 1 ⟨true, true, false⟩ []), (.int .i64 0)] [(0, 7, (.t 22)), (7, 1, (.t 23))]) [22, 23],
  o1 25 (.mv (.t 9)) [9],
  o1 26 (.bin false .eql (.t 25) (.k (.int .i64 0))) [25],
  (⟨⟨none, none, .store 8 (.t 4) (.t 24)⟩, 0, []⟩, [24]),
  o1 5 (.mv (.t 26)) [26]]
/-- bosun/settings.read -/
@[reducible] def fSetRead : KCode := (.seq (.reg fSetRead_r0) (.seq (.reg fSetRead_r1) (.seq (.reg fSetRead_r2) (.seq (.reg fSetRead_r3) .ret))))
@[reducible] def fSetRead_rs : List IRes := [.cell 4 (some 8), .tmp 5]
theorem fSetRead_low : lowFunc Try.prog 76 [] [] = some ⟨fSetRead.bare, fSetRead_rs, 27⟩ := by kernel_rfl

@[reducible] def fSetNewest_r0 : List (DOper × List Nat) := [
  o1 2 (.alloc 100 [(.int .u32 0), (.int .u32 0), (.int .u32 0), (.int .u32 0), (.int .u8 0), (.int .u32 0), (.list 1 ⟨true, true, false⟩ []), (.int .i64 0)]) [],
  o1 3 (.mv (.k (.bool false))) [3]]
@[reducible] def fSetNewest_r1 : List (DOper × List Nat) := [
  o1 4 (.alloc 100 [(.int .u32 0), (.int .u32 0), (.int .u32 0), (.int .u32 0), (.int .u8 0), (.int .u32 0), (.list 1 ⟨true, true, false⟩ []), (.int .i64 0)]) []]
@[reducible] def fSetNewest_r2 : List (DOper × List Nat) := [
  o1 5 (.mv (.k (.bool false))) []]
@[reducible] def fSetNewest_r3 : List (DOper × List Nat) := [
  o1 9 (.mv (.k (.int .i64 0))) []]
@[reducible] def fSetNewest_r4 : List (DOper × List Nat) := [
  o1 10 (.bin false .lss (.t 9) (.k (.int .i64 2))) []]
@[reducible] def fSetNewest_k0 : KCode := (.kill [0, 9, 10] (.exit 0))
@[reducible] def fSetNewest_r5 : List (DOper × List Nat) := [
  o1 11 (.mv (.t 9)) [],
  o1 6 (.mv (.t 11)) [11]]
@[reducible] def fSetNewest_r6 : List (DOper × List Nat) := [
  o1 13 (.mv (.t 0)) [],
  o1 14 (.mv (.t 6)) [6],
  o1 15 (.call 76 [(.t 13), (.t 14)]) [13, 14],
  o1 12 (.mv (.t 15)) [15],
  o1 16 (.extract 0 (.t 12)) [],
  o1 17 (.extract 1 (.t 12)) [12],
  o1 7 (.alloc 100 [(.int .u32 0), (.int .u32 0), (.int .u32 0), (.int .u32 0), (.int .u8 0), (.int .u32 0), (.list 1 ⟨true, true, false⟩ []), (.int .i64 0)]) [],
  (⟨⟨none, none, .store 8 (.t 7) (.t 16)⟩, 0, []⟩, [16]),
  o1 8 (.mv (.t 17)) [17]]
@[reducible] def fSetNewest_r7 : List (DOper × List Nat) := [
  o1 18 (.mv (.t 8)) [8],
  o1 19 (.mv (.t 18)) [18],
  (⟨⟨(some 20), (some (19, true)), .mv (.t 5)⟩, 0, []⟩, []),
  (⟨⟨(some 21), (some (19, true)), .un .not (.t 20)⟩, 0, []⟩, [20]),
  (⟨⟨(some 22), (some (19, true)), .mv (.t 21)⟩, 0, []⟩, [21]),
  (⟨⟨(some 23), (some (22, false)), .fieldAddr 0 (.t 7)⟩, 0, []⟩, []),
  (⟨⟨(some 24), (some (22, false)), .fieldAddr 0 (.t 23)⟩, 0, []⟩, [23]),
  (⟨⟨(some 25), (some (22, false)), .load none (.t 24)⟩, 0, []⟩, [24]),
  (⟨⟨(some 26), (some (22, false)), .fieldAddr 0 (.t 4)⟩, 0, []⟩, []),
  (⟨⟨(some 27), (some (22, false)), .fieldAddr 0 (.t 26)⟩, 0, []⟩, [26]),
  (⟨⟨(some 28), (some (22, false)), .load none (.t 27)⟩, 0, []⟩, [27]),
  (⟨⟨(some 29), (some (22, false)), .bin false .gtr (.t 25) (.t 28)⟩, 0, []⟩, [25, 28]),
  (⟨⟨(some 30), (some (19, true)), .pick (.t 22) (.k (.bool true)) (.t 29)⟩, 0, []⟩, [22, 29]),
  o1 31 (.pick (.t 19) (.t 30) (.k (.bool false))) [19, 30]]
@[reducible] def fSetNewest_r8 : List (DOper × List Nat) := [
  o1 32 (.load (some 8) (.t 7)) [7],
  (⟨⟨none, none, .store 8 (.t 4) (.t 32)⟩, 0, []⟩, [32]),
  o1 5 (.mv (.k (.bool true))) []]
@[reducible] def fSetNewest_k1 : KCode := (.kill [5, 31] (.reg fSetNewest_r8))
@[reducible] def fSetNewest_r9 : List (DOper × List Nat) := [
  o1 33 (.bin false .add (.t 9) (.k (.int .i64 1))) [9],
  o1 9 (.mv (.t 33)) [33]]
/-- live: [0, 2, 4, 5, 9] -/
@[reducible] def fSetNewest_l2 : KCode := (.seq (.reg fSetNewest_r4) (.seq (.cond (.t 10) (.kill [10] .skip) fSetNewest_k0) (.kill [10] (.seq (.block 1 (.seq (.reg fSetNewest_r5) (.seq (.reg fSetNewest_r6) (.seq (.reg fSetNewest_r7) (.cond (.t 31) fSetNewest_k1 (.kill [7, 31] .skip)))))) (.keep [0, 2, 4, 5, 9] (.reg fSetNewest_r9))))))
@[reducible] def fSetNewest_r10 : List (DOper × List Nat) := [
  o1 34 (.load (some 8) (.t 4)) [4],
  o1 35 (.mv (.t 5)) [5],
  (⟨⟨none, none, .store 8 (.t 2) (.t 34)⟩, 0, []⟩, [34]),
  o1 3 (.mv (.t 35)) [35]]
/-- bosun/settings.newest -/
@[reducible] def fSetNewest : KCode := (.seq (.reg fSetNewest_r0) (.seq (.reg fSetNewest_r1) (.seq (.reg fSetNewest_r2) (.seq (.seq (.reg fSetNewest_r3) (.block 0 (.loop fSetNewest_l2))) (.keep [2, 4, 5] (.seq (.reg fSetNewest_r10) .ret))))))
@[reducible] def fSetNewest_rs : List IRes := [.cell 2 (some 8), .tmp 3]
theorem fSetNewest_low : lowFunc Try.prog 58 [] [] = some ⟨fSetNewest.bare, fSetNewest_rs, 36⟩ := by kernel_rfl

@[reducible] def fSetLoad_r0 : List (DOper × List Nat) := [
  o1 2 (.alloc 42 [(.int .u32 0), (.int .u32 0), (.int .u32 0), (.int .u32 0), (.int .u8 0), (.int .u32 0), (.list 1 ⟨true, true, false⟩ [])]) [],
  o1 3 (.mv (.k (.int .i64 0))) [3],
  o1 4 (.mv (.k (.int .i64 0))) [4]]
@[reducible] def fSetLoad_r1 : List (DOper × List Nat) := [
  o1 8 (.mv (.t 0)) [],
  o1 9 (.isNil false 0 (.t 8)) [8],
  o1 10 (.mv (.t 9)) [9],
  (⟨⟨(some 11), (some (10, false)), .mv (.t 0)⟩, 0, []⟩, []),
  (⟨⟨(some 12), (some (10, false)), .call 21 [(.t 11)]⟩, 0, []⟩, [11]),
  (⟨⟨(some 13), (some (10, false)), .bin false .lss (.t 12) (.k (.int .i64 512))⟩, 0, []⟩, [12]),
  o1 14 (.pick (.t 10) (.k (.bool true)) (.t 13)) [10, 13],
  o1 7 (.mv (.t 14)) [14]]
@[reducible] def fSetLoad_r2 : List (DOper × List Nat) := [
  o1 15 (.build [(.int .u32 0), (.int .u32 0), (.int .u32 0), (.int .u32 0), (.int .u8 0), (.int .u32 0), (.list 1 ⟨true, true, false⟩ [])] []) [],
  (⟨⟨none, none, .store 7 (.t 2) (.t 15)⟩, 0, []⟩, [15]),
  o1 3 (.mv (.k (.int .i64 0))) [],
  o1 4 (.mv (.k (.int .i64 1))) []]
@[reducible] def fSetLoad_r3 : List (DOper × List Nat) := [
  o1 17 (.mv (.t 0)) [],
  o1 18 (.call 16 [(.t 17)]) [17],
  o1 16 (.mv (.t 18)) [18]]
@[reducible] def fSetLoad_r4 : List (DOper × List Nat) := [
  o1 19 (.build [(.int .u32 0), (.int .u32 0), (.int .u32 0), (.int .u32 0), (.int .u8 0), (.int .u32 0), (.list 1 ⟨true, true, false⟩ [])] []) [],
  (⟨⟨none, none, .store 7 (.t 2) (.t 19)⟩, 0, []⟩, [19]),
  o1 3 (.mv (.k (.int .i64 0))) [],
  o1 4 (.mv (.k (.int .i64 5))) []]
@[reducible] def fSetLoad_k0 : KCode := (.keep [2] (.seq (.reg fSetLoad_r4) .ret))
@[reducible] def fSetLoad_k1 : KCode := (.keep [2] (.seq (.reg fSetLoad_r2) .ret))
@[reducible] def fSetLoad_k2 : KCode := (.kill [7] (.seq (.reg fSetLoad_r3) (.cond (.t 16) fSetLoad_k0 (.kill [16] .skip))))
@[reducible] def fSetLoad_r5 : List (DOper × List Nat) := [
  o1 21 (.mv (.t 0)) [0],
  o1 22 (.call 58 [(.t 21)]) [21],
  o1 20 (.mv (.t 22)) [22],
  o1 23 (.extract 0 (.t 20)) [],
  o1 24 (.extract 1 (.t 20)) [20],
  o1 5 (.alloc 100 [(.int .u32 0), (.int .u32 0), (.int .u32 0), (.int .u32 0), (.int .u8 0), (.int .u32 0), (.list 1 ⟨true, true, false⟩ []), (.int .i64 0)]) [],
  (⟨⟨none, none, .store 8 (.t 5) (.t 23)⟩, 0, []⟩, [23]),
  o1 6 (.mv (.t 24)) [24]]
@[reducible] def fSetLoad_r6 : List (DOper × List Nat) := [
  o1 25 (.mv (.t 6)) [6],
  o1 26 (.un .not (.t 25)) [25]]
@[reducible] def fSetLoad_r7 : List (DOper × List Nat) := [
  o1 27 (.build [(.int .u32 0), (.int .u32 0), (.int .u32 0), (.int .u32 0), (.int .u8 0), (.int .u32 0), (.list 1 ⟨true, true, false⟩ [])] []) [],
  (⟨⟨none, none, .store 7 (.t 2) (.t 27)⟩, 0, []⟩, [27]),
  o1 3 (.mv (.k (.int .i64 0))) [],
  o1 4 (.mv (.k (.int .i64 15))) []]
@[reducible] def fSetLoad_k3 : KCode := (.keep [2] (.seq (.reg fSetLoad_r7) .ret))
@[reducible] def fSetLoad_r8 : List (DOper × List Nat) := [
  o1 28 (.fieldAddr 0 (.t 5)) [],
  o2 29 1 (.load (some 7) (.t 28)) [28],
  o2 30 2 (.fieldAddr 7 (.t 5)) [5],
  o2 31 3 (.load none (.t 30)) [30],
  (⟨⟨none, none, .store 7 (.t 2) (.t 29)⟩, 4, [3]⟩, [29]),
  o2 3 5 (.mv (.t 31)) [31],
  o2 4 6 (.mv (.k (.int .i64 0))) []]
/-- bosun/settings.Load -/
@[reducible] def fSetLoad : KCode := (.seq (.reg fSetLoad_r0) (.seq (.block 0 (.seq (.reg fSetLoad_r1) (.cond (.t 7) fSetLoad_k1 fSetLoad_k2))) (.keep [0, 2] (.seq (.reg fSetLoad_r5) (.seq (.seq (.reg fSetLoad_r6) (.cond (.t 26) fSetLoad_k3 (.kill [26] .skip))) (.keep [2, 5] (.seq (.draw fSetLoad_r8) .ret)))))))
@[reducible] def fSetLoad_rs : List IRes := [.cell 2 (some 7), .tmp 3, .tmp 4]
theorem fSetLoad_low : lowFunc Try.prog 25 [] [] = some ⟨fSetLoad.bare, fSetLoad_rs, 32⟩ := by kernel_rfl

@[reducible] def fSetSave_r0 : List (DOper × List Nat) := [
  o1 2 (.box 25 (.t 0)) [0],
  o1 3 (.box 42 (.t 1)) [1],
  o1 4 (.alloc 42 [(.int .u32 0), (.int .u32 0), (.int .u32 0), (.int .u32 0), (.int .u8 0), (.int .u32 0), (.list 1 ⟨true, true, false⟩ [])]) [],
  o1 5 (.mv (.k (.int .i64 0))) [5]]
@[reducible] def fSetSave_r1 : List (DOper × List Nat) := [
  o1 15 (.load none (.t 2)) [],
  o1 16 (.call 25 [(.t 15)]) [15],
  o1 14 (.mv (.t 16)) [16],
  o1 17 (.extract 0 (.t 14)) [],
  o1 18 (.extract 1 (.t 14)) [],
  o1 19 (.extract 2 (.t 14)) [14],
  o1 6 (.alloc 42 [(.int .u32 0), (.int .u32 0), (.int .u32 0), (.int .u32 0), (.int .u8 0), (.int .u32 0), (.list 1 ⟨true, true, false⟩ [])]) [],
  (⟨⟨none, none, .store 7 (.t 6) (.t 17)⟩, 0, []⟩, [17]),
  o1 7 (.mv (.t 18)) [18],
  o1 8 (.mv (.t 19)) [19]]
@[reducible] def fSetSave_r2 : List (DOper × List Nat) := [
  o1 21 (.mv (.t 8)) [],
  o1 22 (.bin false .eql (.t 21) (.k (.int .i64 15))) [21],
  o1 20 (.mv (.t 22)) [22]]
@[reducible] def fSetSave_r3 : List (DOper × List Nat) := [
  o1 7 (.mv (.k (.int .i64 1))) []]
@[reducible] def fSetSave_r4 : List (DOper × List Nat) := [
  o1 24 (.mv (.t 8)) [],
  o1 25 (.bin false .neq (.t 24) (.k (.int .i64 0))) [24],
  o1 23 (.mv (.t 25)) [25]]
@[reducible] def fSetSave_r5 : List (DOper × List Nat) := [
  o1 26 (.build [(.int .u32 0), (.int .u32 0), (.int .u32 0), (.int .u32 0), (.int .u8 0), (.int .u32 0), (.list 1 ⟨true, true, false⟩ [])] []) [],
  o1 27 (.mv (.t 8)) [8],
  (⟨⟨none, none, .store 7 (.t 4) (.t 26)⟩, 0, []⟩, [26]),
  o1 5 (.mv (.t 27)) [27]]
@[reducible] def fSetSave_r6 : List (DOper × List Nat) := [
  o1 29 (.fieldAddr 0 (.t 6)) [],
  o1 30 (.load none (.t 29)) [29],
  o1 31 (.bin false .eql (.t 30) (.k (.int .u32 4294967295))) [30],
  o1 28 (.mv (.t 31)) [31]]
@[reducible] def fSetSave_r7 : List (DOper × List Nat) := [
  o1 32 (.build [(.int .u32 0), (.int .u32 0), (.int .u32 0), (.int .u32 0), (.int .u8 0), (.int .u32 0), (.list 1 ⟨true, true, false⟩ [])] []) [],
  (⟨⟨none, none, .store 7 (.t 4) (.t 32)⟩, 0, []⟩, [32]),
  o1 5 (.mv (.k (.int .i64 16))) []]
@[reducible] def fSetSave_k0 : KCode := (.keep [4] (.seq (.reg fSetSave_r7) .ret))
@[reducible] def fSetSave_k1 : KCode := (.keep [4, 8] (.seq (.reg fSetSave_r5) .ret))
@[reducible] def fSetSave_k2 : KCode := (.kill [8, 23] (.seq (.reg fSetSave_r6) (.cond (.t 28) fSetSave_k0 (.kill [28] .skip))))
@[reducible] def fSetSave_k3 : KCode := (.kill [7, 8, 20] (.reg fSetSave_r3))
@[reducible] def fSetSave_k4 : KCode := (.kill [20] (.seq (.reg fSetSave_r4) (.cond (.t 23) fSetSave_k1 fSetSave_k2)))
@[reducible] def fSetSave_r8 : List (DOper × List Nat) := [
  o1 33 (.fieldAddr 0 (.t 6)) [6],
  o1 34 (.load none (.t 33)) [33],
  o1 35 (.bin false .add (.t 34) (.k (.int .u32 1))) [34],
  o1 36 (.fieldAddr 0 (.t 3)) [],
  (⟨⟨none, none, .store 1 (.t 36) (.t 35)⟩, 0, []⟩, [35, 36])]
@[reducible] def fSetSave_r9 : List (DOper × List Nat) := [
  o1 38 (.load (some 7) (.t 3)) [],
  o1 39 (.call 27 [(.t 38)]) [38],
  o1 37 (.mv (.t 39)) [39],
  o1 40 (.extract 0 (.t 37)) [],
  o1 41 (.extract 1 (.t 37)) [37],
  o1 9 (.alloc 22 [(.list 1 ⟨true, true, false⟩ [])]) [],
  (⟨⟨none, none, .store 1 (.t 9) (.t 40)⟩, 0, []⟩, [40]),
  o1 8 (.mv (.t 41)) [41]]
@[reducible] def fSetSave_r10 : List (DOper × List Nat) := [
  o1 42 (.mv (.t 8)) [],
  o1 43 (.bin false .neq (.t 42) (.k (.int .i64 0))) [42]]
@[reducible] def fSetSave_r11 : List (DOper × List Nat) := [
  o1 44 (.build [(.int .u32 0), (.int .u32 0), (.int .u32 0), (.int .u32 0), (.int .u8 0), (.int .u32 0), (.list 1 ⟨true, true, false⟩ [])] []) [],
  o1 45 (.mv (.t 8)) [8],
  (⟨⟨none, none, .store 7 (.t 4) (.t 44)⟩, 0, []⟩, [44]),
  o1 5 (.mv (.t 45)) [45]]
@[reducible] def fSetSave_k5 : KCode := (.keep [4, 8] (.seq (.reg fSetSave_r11) .ret))
@[reducible] def fSetSave_r12 : List (DOper × List Nat) := [
  o1 46 (.mv (.t 7)) [7],
  o1 47 (.bin false .sub (.k (.int .i64 1)) (.t 46)) [46],
  o1 10 (.alloc 3 [(.int .i64 0)]) [],
  (⟨⟨none, none, .store 1 (.t 10) (.t 47)⟩, 0, []⟩, [47])]
@[reducible] def fSetSave_r13 : List (DOper × List Nat) := [
  o1 48 (.func (.func 59) [] [(.t 2), (.t 10)]) [],
  o1 49 (.func (.func 60) [] [(.t 2), (.t 10)]) [],
  o1 50 (.func (.func 61) [] [(.t 2), (.t 10), (.t 9)]) [2, 9, 10],
  o1 51 (.buildF 103 1 [.nilFunc, .nilFunc, .nilFunc] [(0, 1, (.t 48)), (1, 1, (.t 49)), (2, 1, (.t 50))]) [48, 49, 50],
  o1 52 (.len true (.t 51)) [],
  o1 53 (.mv (.k (.int .i64 0))) []]
@[reducible] def fSetSave_r14 : List (DOper × List Nat) := [
  o1 54 (.bin false .lss (.t 53) (.t 52)) []]
@[reducible] def fSetSave_k6 : KCode := (.keep [3, 4] (.exit 1))
@[reducible] def fSetSave_r15 : List (DOper × List Nat) := [
  o1 55 (.idxS 1 (.t 51) (.t 53)) [],
  o1 56 (.load none (.t 55)) [55],
  o1 12 (.mv (.t 56)) [56]]
@[reducible] def fSetSave_r16 : List (DOper × List Nat) := [
  o1 57 (.mv (.t 12)) [12],
  o1 58 (.callv (.t 57) []) [57],
  o1 13 (.mv (.t 58)) [58]]
@[reducible] def fSetSave_r17 : List (DOper × List Nat) := [
  o1 59 (.mv (.t 13)) [],
  o1 60 (.bin false .neq (.t 59) (.k (.int .i64 0))) [59]]
@[reducible] def fSetSave_r18 : List (DOper × List Nat) := [
  o1 61 (.build [(.int .u32 0), (.int .u32 0), (.int .u32 0), (.int .u32 0), (.int .u8 0), (.int .u32 0), (.list 1 ⟨true, true, false⟩ [])] []) [],
  o1 62 (.mv (.t 13)) [13],
  (⟨⟨none, none, .store 7 (.t 4) (.t 61)⟩, 0, []⟩, [61]),
  o1 5 (.mv (.t 62)) [62]]
@[reducible] def fSetSave_k7 : KCode := (.keep [4, 13] (.seq (.reg fSetSave_r18) .ret))
@[reducible] def fSetSave_r19 : List (DOper × List Nat) := [
  o1 63 (.bin false .add (.t 53) (.k (.int .i64 1))) [53],
  o1 53 (.mv (.t 63)) [63]]
/-- live: [3, 4, 51, 52, 53] -/
@[reducible] def fSetSave_l8 : KCode := (.seq (.reg fSetSave_r14) (.seq (.cond (.t 54) (.kill [54] .skip) fSetSave_k6) (.kill [54] (.seq (.block 2 (.seq (.reg fSetSave_r15) (.seq (.reg fSetSave_r16) (.seq (.reg fSetSave_r17) (.cond (.t 60) fSetSave_k7 (.kill [13, 60] .skip)))))) (.keep [3, 4, 51, 52, 53] (.reg fSetSave_r19))))))
@[reducible] def fSetSave_r20 : List (DOper × List Nat) := [
  o1 64 (.load (some 7) (.t 3)) [3],
  (⟨⟨none, none, .store 7 (.t 4) (.t 64)⟩, 0, []⟩, [64]),
  o1 5 (.mv (.k (.int .i64 0))) []]
/-- bosun/settings.Save -/
@[reducible] def fSetSave : KCode := (.seq (.reg fSetSave_r0) (.seq (.reg fSetSave_r1) (.seq (.block 0 (.seq (.reg fSetSave_r2) (.cond (.t 20) fSetSave_k3 fSetSave_k4))) (.keep [2, 3, 4, 6, 7] (.seq (.reg fSetSave_r8) (.seq (.reg fSetSave_r9) (.seq (.seq (.reg fSetSave_r10) (.cond (.t 43) fSetSave_k5 (.kill [8, 43] .skip))) (.keep [2, 3, 4, 7, 9] (.seq (.reg fSetSave_r12) (.seq (.seq (.reg fSetSave_r13) (.block 1 (.loop fSetSave_l8))) (.keep [3, 4] (.seq (.reg fSetSave_r20) .ret))))))))))))
@[reducible] def fSetSave_rs : List IRes := [.cell 4 (some 7), .tmp 5]
theorem fSetSave_low : lowFunc Try.prog 26 [] [] = some ⟨fSetSave.bare, fSetSave_rs, 65⟩ := by kernel_rfl

@[reducible] def fSetSave1_r0 : List (DOper × List Nat) := [
  o1 2 (.mv (.k (.int .i64 0))) [2]]
@[reducible] def fSetSave1_r1 : List (DOper × List Nat) := [
  o1 3 (.load none (.t 0)) [0],
  o2 4 1 (.load none (.t 1)) [1],
  o2 5 2 (.bin false .mul (.t 4) (.k (.int .i64 256))) [4],
  (⟨⟨(some 6), none, .makeS 5 1 1 [(.int .u8 0)] (.k (.int .i64 4)) (.k (.int .i64 4))⟩, 3, [1, 0]⟩, []),
  o2 7 4 (.call 15 [(.t 3), (.t 5), (.t 6)]) [3, 5, 6],
  o2 2 5 (.mv (.t 7)) [7]]
/-- bosun/settings.Save$1 -/
@[reducible] def fSetSave1 : KCode := (.seq (.reg fSetSave1_r0) (.seq (.draw fSetSave1_r1) .ret))
@[reducible] def fSetSave1_rs : List IRes := [.tmp 2]
theorem fSetSave1_low : lowFunc Try.prog 59 [] [] = some ⟨fSetSave1.bare, fSetSave1_rs, 8⟩ := by kernel_rfl

@[reducible] def fSetSave2_r0 : List (DOper × List Nat) := [
  o1 2 (.mv (.k (.int .i64 0))) [2]]
@[reducible] def fSetSave2_r1 : List (DOper × List Nat) := [
  o1 3 (.load none (.t 0)) [0],
  o1 4 (.load none (.t 1)) [1],
  o1 5 (.call 19 [(.t 3), (.t 4)]) [3, 4],
  o1 2 (.mv (.t 5)) [5]]
/-- bosun/settings.Save$2 -/
@[reducible] def fSetSave2 : KCode := (.seq (.reg fSetSave2_r0) (.seq (.reg fSetSave2_r1) .ret))
@[reducible] def fSetSave2_rs : List IRes := [.tmp 2]
theorem fSetSave2_low : lowFunc Try.prog 60 [] [] = some ⟨fSetSave2.bare, fSetSave2_rs, 6⟩ := by kernel_rfl

@[reducible] def fSetSave3_r0 : List (DOper × List Nat) := [
  o1 3 (.mv (.k (.int .i64 0))) [3]]
@[reducible] def fSetSave3_r1 : List (DOper × List Nat) := [
  o1 4 (.load none (.t 0)) [0],
  o1 5 (.load none (.t 1)) [1],
  o1 6 (.bin false .mul (.t 5) (.k (.int .i64 256))) [5],
  o1 7 (.load none (.t 2)) [2],
  o1 8 (.call 15 [(.t 4), (.t 6), (.t 7)]) [4, 6, 7],
  o1 3 (.mv (.t 8)) [8]]
/-- bosun/settings.Save$3 -/
@[reducible] def fSetSave3 : KCode := (.seq (.reg fSetSave3_r0) (.seq (.reg fSetSave3_r1) .ret))
@[reducible] def fSetSave3_rs : List IRes := [.tmp 3]
theorem fSetSave3_low : lowFunc Try.prog 61 [] [] = some ⟨fSetSave3.bare, fSetSave3_rs, 9⟩ := by kernel_rfl

@[reducible] def fRFlNew_r0 : List (DOper × List Nat) := [
  o1 2 (.mv (.k .nil)) [2],
  o1 3 (.mv (.k (.int .i64 0))) [3]]
@[reducible] def fRFlNew_r1 : List (DOper × List Nat) := [
  o1 6 (.mv (.t 0)) [],
  o1 7 (.bin false .lss (.t 6) (.k (.int .i64 1))) [6],
  o1 8 (.mv (.t 7)) [7],
  (⟨⟨(some 9), (some (8, false)), .mv (.t 0)⟩, 0, []⟩, []),
  (⟨⟨(some 10), (some (8, false)), .bin false .gtr (.t 9) (.k (.int .i64 64))⟩, 0, []⟩, [9]),
  o1 11 (.pick (.t 8) (.k (.bool true)) (.t 10)) [8, 10]]
@[reducible] def fRFlNew_r2 : List (DOper × List Nat) := [
  o1 2 (.mv (.k .nil)) [],
  o1 3 (.mv (.k (.int .i64 1))) []]
@[reducible] def fRFlNew_k0 : KCode := (.keep [] (.seq (.reg fRFlNew_r2) .ret))
@[reducible] def fRFlNew_r3 : List (DOper × List Nat) := [
  o1 12 (.mv (.t 0)) [],
  o1 13 (.makeS 3 1 8 [(.int .i64 0)] (.t 12) (.t 12)) [12],
  o1 14 (.build [(.list 1 ⟨true, true, false⟩ []), (.int .i64 0), (.int .i64 0), (.bool false), (.int .i64 0), (.int .u32 0), (.bool false), (.list 1 ⟨true, true, false⟩ []), (.int .i64 0)] [(7, 1, (.t 13))]) [13],
  o1 15 (.box 57 (.t 14)) [14],
  o1 4 (.mv (.t 15)) [15]]
@[reducible] def fRFlNew_r4 : List (DOper × List Nat) := [
  o1 5 (.mv (.k (.int .i64 0))) []]
@[reducible] def fRFlNew_r5 : List (DOper × List Nat) := [
  o1 16 (.mv (.t 5)) [],
  o1 17 (.mv (.t 0)) [],
  o1 18 (.bin false .mul (.k (.int .i64 256)) (.t 17)) [17],
  o1 19 (.bin false .lss (.t 16) (.t 18)) [16, 18]]
@[reducible] def fRFlNew_r6 : List (DOper × List Nat) := [
  o1 22 (.mv (.t 4)) [],
  o1 23 (.mv (.t 4)) [],
  o1 24 (.nilCheck (.t 23)) [23],
  o1 25 (.fieldAddr 0 (.t 24)) [24],
  o1 26 (.load none (.t 25)) [25],
  o1 27 (.buildF 5 1 [(.int .u8 0)] [(0, 1, (.k (.int .u8 255)))]) [],
  o1 28 (.appO 5 1 1 (.t 26) (.t 27)) [26, 27],
  o1 29 (.nilCheck (.t 22)) [22],
  o1 30 (.fieldAddr 0 (.t 29)) [29],
  (⟨⟨none, none, .store 1 (.t 30) (.t 28)⟩, 0, []⟩, [28, 30])]
@[reducible] def fRFlNew_r7 : List (DOper × List Nat) := [
  o1 20 (.mv (.t 5)) [5],
  o1 21 (.bin false .add (.t 20) (.k (.int .i64 1))) [20],
  o1 5 (.mv (.t 21)) [21]]
/-- live: [0, 4, 5] -/
@[reducible] def fRFlNew_l1 : KCode := (.seq (.seq (.reg fRFlNew_r5) (.cond (.t 19) (.kill [19] .skip) (.keep [4] (.exit 0)))) (.keep [0, 4, 5] (.seq (.block 1 (.reg fRFlNew_r6)) (.keep [0, 4, 5] (.reg fRFlNew_r7)))))
@[reducible] def fRFlNew_r8 : List (DOper × List Nat) := [
  o1 31 (.mv (.t 4)) [4],
  o1 2 (.mv (.t 31)) [31],
  o1 3 (.mv (.k (.int .i64 0))) []]
/-- bosun/bosunref01.New -/
@[reducible] def fRFlNew : KCode := (.seq (.reg fRFlNew_r0) (.seq (.seq (.reg fRFlNew_r1) (.cond (.t 11) fRFlNew_k0 (.kill [11] .skip))) (.keep [0] (.seq (.reg fRFlNew_r3) (.seq (.seq (.reg fRFlNew_r4) (.block 0 (.loop fRFlNew_l1))) (.keep [4] (.seq (.reg fRFlNew_r8) .ret)))))))
@[reducible] def fRFlNew_rs : List IRes := [.tmp 2, .tmp 3]
theorem fRFlNew_low : lowFunc Try.prog 28 [] [] = some ⟨fRFlNew.bare, fRFlNew_rs, 32⟩ := by kernel_rfl

@[reducible] def fRFlFail_r0 : List (DOper × List Nat) := [
  o1 6 (.mv (.k (.int .i64 0))) [6]]
@[reducible] def fRFlFail_r1 : List (DOper × List Nat) := [
  o1 7 (.mv (.t 1)) [],
  o1 8 (.bin false .lss (.t 7) (.k (.int .i64 0))) [7]]
@[reducible] def fRFlFail_r2 : List (DOper × List Nat) := [
  o1 6 (.mv (.k (.int .i64 1))) []]
@[reducible] def fRFlFail_k0 : KCode := (.keep [] (.seq (.reg fRFlFail_r2) .ret))
@[reducible] def fRFlFail_r3 : List (DOper × List Nat) := [
  o1 9 (.mv (.t 0)) [],
  o1 10 (.nilCheck (.t 9)) [9],
  o1 11 (.fieldAddr 3 (.t 10)) [10],
  (⟨⟨none, none, .store 1 (.t 11) (.k (.bool true))⟩, 0, []⟩, [11])]
@[reducible] def fRFlFail_r4 : List (DOper × List Nat) := [
  o1 12 (.mv (.t 0)) [],
  o1 13 (.mv (.t 1)) [1],
  o1 14 (.nilCheck (.t 12)) [12],
  o1 15 (.fieldAddr 4 (.t 14)) [14],
  (⟨⟨none, none, .store 1 (.t 15) (.t 13)⟩, 0, []⟩, [13, 15])]
@[reducible] def fRFlFail_r5 : List (DOper × List Nat) := [
  o1 16 (.mv (.t 0)) [0],
  o1 17 (.mv (.t 2)) [2],
  o1 18 (.nilCheck (.t 16)) [16],
  o1 19 (.fieldAddr 5 (.t 18)) [18],
  (⟨⟨none, none, .store 1 (.t 19) (.t 17)⟩, 0, []⟩, [17, 19])]
@[reducible] def fRFlFail_r6 : List (DOper × List Nat) := [
  o1 6 (.mv (.k (.int .i64 0))) []]
/-- (*bosun/bosunref01.Flash).Fail -/
@[reducible] def fRFlFail : KCode := (.seq (.reg fRFlFail_r0) (.seq (.seq (.reg fRFlFail_r1) (.cond (.t 8) fRFlFail_k0 (.kill [8] .skip))) (.kill [6, 7, 8] (.seq (.reg fRFlFail_r3) (.seq (.reg fRFlFail_r4) (.seq (.reg fRFlFail_r5) (.seq (.reg fRFlFail_r6) .ret)))))))
@[reducible] def fRFlFail_rs : List IRes := [.tmp 6]
theorem fRFlFail_low : lowFunc Try.prog 47 [] [] = some ⟨fRFlFail.bare, fRFlFail_rs, 20⟩ := by kernel_rfl

@[reducible] def fRFlPower_r0 : List (DOper × List Nat) := [
  o1 2 (.mv (.t 0)) [],
  o1 3 (.nilCheck (.t 2)) [2],
  o1 4 (.fieldAddr 6 (.t 3)) [3],
  (⟨⟨none, none, .store 1 (.t 4) (.k (.bool false))⟩, 0, []⟩, [4])]
@[reducible] def fRFlPower_r1 : List (DOper × List Nat) := [
  o1 5 (.mv (.t 0)) [0],
  o1 6 (.nilCheck (.t 5)) [5],
  o1 7 (.fieldAddr 3 (.t 6)) [6],
  (⟨⟨none, none, .store 1 (.t 7) (.k (.bool false))⟩, 0, []⟩, [7])]
/-- (*bosun/bosunref01.Flash).Power -/
@[reducible] def fRFlPower : KCode := (.seq (.reg fRFlPower_r0) (.reg fRFlPower_r1))
@[reducible] def fRFlPower_rs : List IRes := []
theorem fRFlPower_low : lowFunc Try.prog 48 [] [] = some ⟨fRFlPower.bare, fRFlPower_rs, 8⟩ := by kernel_rfl

@[reducible] def fRFlErase_r0 : List (DOper × List Nat) := [
  o1 4 (.mv (.k (.int .i64 0))) [4]]
@[reducible] def fRFlErase_r1 : List (DOper × List Nat) := [
  o1 7 (.mv (.t 0)) [],
  o1 8 (.nilCheck (.t 7)) [7],
  o1 9 (.fieldAddr 6 (.t 8)) [8],
  o1 10 (.load none (.t 9)) [9]]
@[reducible] def fRFlErase_r2 : List (DOper × List Nat) := [
  o1 4 (.mv (.k (.int .i64 5))) []]
@[reducible] def fRFlErase_k0 : KCode := (.keep [] (.seq (.reg fRFlErase_r2) .ret))
@[reducible] def fRFlErase_r3 : List (DOper × List Nat) := [
  o1 11 (.mv (.t 1)) [],
  o1 12 (.bin false .lss (.t 11) (.k (.int .i64 0))) [11],
  o1 13 (.mv (.t 12)) [12],
  (⟨⟨(some 14), (some (13, false)), .mv (.t 1)⟩, 0, []⟩, []),
  (⟨⟨(some 15), (some (13, false)), .mv (.t 0)⟩, 0, []⟩, []),
  (⟨⟨(some 16), (some (13, false)), .nilCheck (.t 15)⟩, 0, []⟩, [15]),
  (⟨⟨(some 17), (some (13, false)), .fieldAddr 7 (.t 16)⟩, 0, []⟩, [16]),
  (⟨⟨(some 18), (some (13, false)), .load none (.t 17)⟩, 0, []⟩, [17]),
  (⟨⟨(some 19), (some (13, false)), .len true (.t 18)⟩, 0, []⟩, [18]),
  (⟨⟨(some 20), (some (13, false)), .bin false .geq (.t 14) (.t 19)⟩, 0, []⟩, [14, 19]),
  o1 21 (.pick (.t 13) (.k (.bool true)) (.t 20)) [13, 20]]
@[reducible] def fRFlErase_r4 : List (DOper × List Nat) := [
  o1 4 (.mv (.k (.int .i64 3))) []]
@[reducible] def fRFlErase_k1 : KCode := (.keep [] (.seq (.reg fRFlErase_r4) .ret))
@[reducible] def fRFlErase_r5 : List (DOper × List Nat) := [
  o1 22 (.mv (.t 1)) [],
  o1 23 (.mv (.t 0)) [],
  o1 24 (.nilCheck (.t 23)) [23],
  o1 25 (.fieldAddr 1 (.t 24)) [24],
  o1 26 (.load none (.t 25)) [25],
  o1 27 (.bin false .geq (.t 22) (.t 26)) [22, 26],
  o1 28 (.mv (.t 27)) [27],
  (⟨⟨(some 29), (some (28, true)), .mv (.t 1)⟩, 0, []⟩, []),
  (⟨⟨(some 30), (some (28, true)), .mv (.t 0)⟩, 0, []⟩, []),
  (⟨⟨(some 31), (some (28, true)), .nilCheck (.t 30)⟩, 0, []⟩, [30]),
  (⟨⟨(some 32), (some (28, true)), .fieldAddr 2 (.t 31)⟩, 0, []⟩, [31]),
  (⟨⟨(some 33), (some (28, true)), .load none (.t 32)⟩, 0, []⟩, [32]),
  (⟨⟨(some 34), (some (28, true)), .bin false .lss (.t 29) (.t 33)⟩, 0, []⟩, [29, 33]),
  o1 35 (.pick (.t 28) (.t 34) (.k (.bool false))) [28, 34]]
@[reducible] def fRFlErase_r6 : List (DOper × List Nat) := [
  o1 4 (.mv (.k (.int .i64 4))) []]
@[reducible] def fRFlErase_k2 : KCode := (.keep [] (.seq (.reg fRFlErase_r6) .ret))
@[reducible] def fRFlErase_r7 : List (DOper × List Nat) := [
  o1 36 (.mv (.t 0)) [],
  o1 37 (.call 78 [(.t 36)]) [36],
  o1 5 (.mv (.t 37)) [37]]
@[reducible] def fRFlErase_r8 : List (DOper × List Nat) := [
  o1 6 (.mv (.k (.int .i64 0))) []]
@[reducible] def fRFlErase_r9 : List (DOper × List Nat) := [
  o1 38 (.mv (.t 6)) [],
  o1 39 (.bin false .lss (.t 38) (.k (.int .i64 256))) [38]]
@[reducible] def fRFlErase_k3 : KCode := (.kill [6, 39] (.exit 0))
@[reducible] def fRFlErase_r10 : List (DOper × List Nat) := [
  o1 42 (.mv (.t 5)) [],
  o1 43 (.un .not (.t 42)) [42],
  o1 44 (.mv (.t 43)) [43],
  (⟨⟨(some 45), (some (44, false)), .mv (.t 0)⟩, 0, []⟩, []),
  (⟨⟨(some 46), (some (44, false)), .nilCheck (.t 45)⟩, 0, []⟩, [45]),
  (⟨⟨(some 47), (some (44, false)), .fieldAddr 5 (.t 46)⟩, 0, []⟩, [46]),
  (⟨⟨(some 48), (some (44, false)), .load none (.t 47)⟩, 0, []⟩, [47]),
  (⟨⟨(some 49), (some (44, false)), .mv (.t 6)⟩, 0, []⟩, []),
  (⟨⟨(some 50), (some (44, false)), .bin false .rem (.t 49) (.k (.int .i64 32))⟩, 0, []⟩, [49]),
  (⟨⟨(some 51), (some (44, false)), .bin false .shr (.t 48) (.t 50)⟩, 0, []⟩, [48, 50]),
  (⟨⟨(some 52), (some (44, false)), .bin false .rem (.t 51) (.k (.int .u32 2))⟩, 0, []⟩, [51]),
  (⟨⟨(some 53), (some (44, false)), .bin false .eql (.t 52) (.k (.int .u32 1))⟩, 0, []⟩, [52]),
  o1 54 (.pick (.t 44) (.k (.bool true)) (.t 53)) [44, 53]]
@[reducible] def fRFlErase_r11 : List (DOper × List Nat) := [
  o1 55 (.mv (.t 0)) [],
  o1 56 (.nilCheck (.t 55)) [55],
  o1 57 (.fieldAddr 0 (.t 56)) [56],
  o1 58 (.load none (.t 57)) [57],
  o1 59 (.mv (.t 1)) [],
  o1 60 (.bin false .mul (.k (.int .i64 256)) (.t 59)) [59],
  o1 61 (.mv (.t 6)) [],
  o1 62 (.bin false .add (.t 60) (.t 61)) [60, 61],
  o1 63 (.idxS 1 (.t 58) (.t 62)) [58, 62],
  (⟨⟨none, none, .store 1 (.t 63) (.k (.int .u8 255))⟩, 0, []⟩, [63])]
@[reducible] def fRFlErase_k4 : KCode := (.kill [54] (.reg fRFlErase_r11))
@[reducible] def fRFlErase_r12 : List (DOper × List Nat) := [
  o1 40 (.mv (.t 6)) [6],
  o1 41 (.bin false .add (.t 40) (.k (.int .i64 1))) [40],
  o1 6 (.mv (.t 41)) [41]]
/-- live: [0, 1, 5, 6] -/
@[reducible] def fRFlErase_l5 : KCode := (.seq (.seq (.reg fRFlErase_r9) (.cond (.t 39) (.kill [39] .skip) fRFlErase_k3)) (.kill [38, 39] (.seq (.block 1 (.seq (.reg fRFlErase_r10) (.cond (.t 54) fRFlErase_k4 (.kill [54] .skip)))) (.keep [0, 1, 5, 6] (.reg fRFlErase_r12)))))
@[reducible] def fRFlErase_r13 : List (DOper × List Nat) := [
  o1 64 (.mv (.t 5)) [5]]
@[reducible] def fRFlErase_r14 : List (DOper × List Nat) := [
  o1 4 (.mv (.k (.int .i64 5))) []]
@[reducible] def fRFlErase_k6 : KCode := (.keep [] (.seq (.reg fRFlErase_r14) .ret))
@[reducible] def fRFlErase_r15 : List (DOper × List Nat) := [
  o1 65 (.mv (.t 0)) [0],
  o1 66 (.nilCheck (.t 65)) [65],
  o1 67 (.fieldAddr 7 (.t 66)) [66],
  o1 68 (.load none (.t 67)) [67],
  o1 69 (.mv (.t 1)) [1],
  o1 70 (.idxS 1 (.t 68) (.t 69)) [],
  o1 71 (.load none (.t 70)) [70],
  o1 72 (.bin false .add (.t 71) (.k (.int .i64 1))) [71],
  o1 73 (.idxS 1 (.t 68) (.t 69)) [68, 69],
  (⟨⟨none, none, .store 1 (.t 73) (.t 72)⟩, 0, []⟩, [72, 73])]
@[reducible] def fRFlErase_r16 : List (DOper × List Nat) := [
  o1 4 (.mv (.k (.int .i64 0))) []]
/-- (*bosun/bosunref01.Flash).Erase -/
@[reducible] def fRFlErase : KCode := (.seq (.reg fRFlErase_r0) (.seq (.seq (.reg fRFlErase_r1) (.cond (.t 10) fRFlErase_k0 (.kill [10] .skip))) (.keep [0, 1] (.seq (.seq (.reg fRFlErase_r3) (.cond (.t 21) fRFlErase_k1 (.kill [21] .skip))) (.keep [0, 1] (.seq (.seq (.reg fRFlErase_r5) (.cond (.t 35) fRFlErase_k2 (.kill [35] .skip))) (.keep [0, 1] (.seq (.reg fRFlErase_r7) (.seq (.seq (.reg fRFlErase_r8) (.block 0 (.loop fRFlErase_l5))) (.keep [0, 1, 5] (.seq (.seq (.reg fRFlErase_r13) (.cond (.t 64) fRFlErase_k6 (.kill [64] .skip))) (.keep [0, 1] (.seq (.reg fRFlErase_r15) (.seq (.reg fRFlErase_r16) .ret))))))))))))))
@[reducible] def fRFlErase_rs : List IRes := [.tmp 4]
theorem fRFlErase_low : lowFunc Try.prog 66 [] [] = some ⟨fRFlErase.bare, fRFlErase_rs, 74⟩ := by kernel_rfl

@[reducible] def fRFlProg_r0 : List (DOper × List Nat) := [
  o1 6 (.mv (.k (.int .i64 0))) [6]]
@[reducible] def fRFlProg_r1 : List (DOper × List Nat) := [
  o1 15 (.mv (.t 0)) [],
  o1 16 (.nilCheck (.t 15)) [15],
  o1 17 (.fieldAddr 6 (.t 16)) [16],
  o1 18 (.load none (.t 17)) [17]]
@[reducible] def fRFlProg_r2 : List (DOper × List Nat) := [
  o1 6 (.mv (.k (.int .i64 5))) []]
@[reducible] def fRFlProg_k0 : KCode := (.keep [] (.seq (.reg fRFlProg_r2) .ret))
@[reducible] def fRFlProg_r3 : List (DOper × List Nat) := [
  o1 19 (.mv (.t 1)) [],
  o1 20 (.bin false .rem (.t 19) (.k (.int .i64 4))) [19],
  o1 21 (.bin false .neq (.t 20) (.k (.int .i64 0))) [20],
  o1 22 (.mv (.t 21)) [21],
  (⟨⟨(some 23), (some (22, false)), .mv (.t 2)⟩, 0, []⟩, []),
  (⟨⟨(some 24), (some (22, false)), .len true (.t 23)⟩, 0, []⟩, [23]),
  (⟨⟨(some 25), (some (22, false)), .bin false .rem (.t 24) (.k (.int .i64 4))⟩, 0, []⟩, [24]),
  (⟨⟨(some 26), (some (22, false)), .bin false .neq (.t 25) (.k (.int .i64 0))⟩, 0, []⟩, [25]),
  o1 27 (.pick (.t 22) (.k (.bool true)) (.t 26)) [22, 26]]
@[reducible] def fRFlProg_r4 : List (DOper × List Nat) := [
  o1 6 (.mv (.k (.int .i64 2))) []]
@[reducible] def fRFlProg_k1 : KCode := (.keep [] (.seq (.reg fRFlProg_r4) .ret))
@[reducible] def fRFlProg_r5 : List (DOper × List Nat) := [
  o1 28 (.mv (.t 1)) [],
  o1 29 (.bin false .lss (.t 28) (.k (.int .i64 0))) [28],
  o1 30 (.mv (.t 29)) [29],
  (⟨⟨(some 31), (some (30, false)), .mv (.t 1)⟩, 0, []⟩, []),
  (⟨⟨(some 32), (some (30, false)), .mv (.t 0)⟩, 0, []⟩, []),
  (⟨⟨(some 33), (some (30, false)), .nilCheck (.t 32)⟩, 0, []⟩, [32]),
  (⟨⟨(some 34), (some (30, false)), .fieldAddr 0 (.t 33)⟩, 0, []⟩, [33]),
  (⟨⟨(some 35), (some (30, false)), .load none (.t 34)⟩, 0, []⟩, [34]),
  (⟨⟨(some 36), (some (30, false)), .len true (.t 35)⟩, 0, []⟩, [35]),
  (⟨⟨(some 37), (some (30, false)), .bin false .gtr (.t 31) (.t 36)⟩, 0, []⟩, [31, 36]),
  o1 38 (.pick (.t 30) (.k (.bool true)) (.t 37)) [30, 37],
  o1 39 (.mv (.t 38)) [38],
  (⟨⟨(some 40), (some (39, false)), .mv (.t 2)⟩, 0, []⟩, []),
  (⟨⟨(some 41), (some (39, false)), .len true (.t 40)⟩, 0, []⟩, [40]),
  (⟨⟨(some 42), (some (39, false)), .mv (.t 0)⟩, 0, []⟩, []),
  (⟨⟨(some 43), (some (39, false)), .nilCheck (.t 42)⟩, 0, []⟩, [42]),
  (⟨⟨(some 44), (some (39, false)), .fieldAddr 0 (.t 43)⟩, 0, []⟩, [43]),
  (⟨⟨(some 45), (some (39, false)), .load none (.t 44)⟩, 0, []⟩, [44]),
  (⟨⟨(some 46), (some (39, false)), .len true (.t 45)⟩, 0, []⟩, [45]),
  (⟨⟨(some 47), (some (39, false)), .mv (.t 1)⟩, 0, []⟩, []),
  (⟨⟨(some 48), (some (39, false)), .bin false .sub (.t 46) (.t 47)⟩, 0, []⟩, [46, 47]),
  (⟨⟨(some 49), (some (39, false)), .bin false .gtr (.t 41) (.t 48)⟩, 0, []⟩, [41, 48]),
  o1 50 (.pick (.t 39) (.k (.bool true)) (.t 49)) [39, 49]]
@[reducible] def fRFlProg_r6 : List (DOper × List Nat) := [
  o1 6 (.mv (.k (.int .i64 3))) []]
@[reducible] def fRFlProg_k2 : KCode := (.keep [] (.seq (.reg fRFlProg_r6) .ret))
@[reducible] def fRFlProg_r7 : List (DOper × List Nat) := [
  o1 7 (.mv (.k (.int .i64 0))) []]
@[reducible] def fRFlProg_r8 : List (DOper × List Nat) := [
  o1 51 (.mv (.t 7)) [],
  o1 52 (.mv (.t 2)) [],
  o1 53 (.len true (.t 52)) [52],
  o1 54 (.bin false .lss (.t 51) (.t 53)) [51, 53]]
@[reducible] def fRFlProg_k3 : KCode := (.kill [7, 54] (.exit 0))
@[reducible] def fRFlProg_r9 : List (DOper × List Nat) := [
  o1 57 (.mv (.t 1)) [],
  o1 58 (.mv (.t 7)) [],
  o1 59 (.bin false .add (.t 57) (.t 58)) [57, 58],
  o1 60 (.bin false .quo (.t 59) (.k (.int .i64 256))) [59],
  o1 8 (.mv (.t 60)) [60]]
@[reducible] def fRFlProg_r10 : List (DOper × List Nat) := [
  o1 61 (.mv (.t 8)) [],
  o1 62 (.mv (.t 0)) [],
  o1 63 (.nilCheck (.t 62)) [62],
  o1 64 (.fieldAddr 1 (.t 63)) [63],
  o1 65 (.load none (.t 64)) [64],
  o1 66 (.bin false .geq (.t 61) (.t 65)) [61, 65],
  o1 67 (.mv (.t 66)) [66],
  (⟨⟨(some 68), (some (67, true)), .mv (.t 8)⟩, 0, []⟩, [8]),
  (⟨⟨(some 69), (some (67, true)), .mv (.t 0)⟩, 0, []⟩, []),
  (⟨⟨(some 70), (some (67, true)), .nilCheck (.t 69)⟩, 0, []⟩, [69]),
  (⟨⟨(some 71), (some (67, true)), .fieldAddr 2 (.t 70)⟩, 0, []⟩, [70]),
  (⟨⟨(some 72), (some (67, true)), .load none (.t 71)⟩, 0, []⟩, [71]),
  (⟨⟨(some 73), (some (67, true)), .bin false .lss (.t 68) (.t 72)⟩, 0, []⟩, [68, 72]),
  o1 74 (.pick (.t 67) (.t 73) (.k (.bool false))) [67, 73]]
@[reducible] def fRFlProg_r11 : List (DOper × List Nat) := [
  o1 6 (.mv (.k (.int .i64 4))) []]
@[reducible] def fRFlProg_k4 : KCode := (.keep [] (.seq (.reg fRFlProg_r11) .ret))
@[reducible] def fRFlProg_r12 : List (DOper × List Nat) := [
  o1 55 (.mv (.t 7)) [7],
  o1 56 (.bin false .add (.t 55) (.k (.int .i64 1))) [55],
  o1 7 (.mv (.t 56)) [56]]
/-- live: [0, 1, 2, 7] -/
@[reducible] def fRFlProg_l5 : KCode := (.seq (.seq (.reg fRFlProg_r8) (.cond (.t 54) (.kill [54] .skip) fRFlProg_k3)) (.kill [51, 52, 53, 54] (.seq (.block 1 (.seq (.reg fRFlProg_r9) (.seq (.reg fRFlProg_r10) (.cond (.t 74) fRFlProg_k4 (.kill [74] .skip))))) (.keep [0, 1, 2, 7] (.reg fRFlProg_r12)))))
@[reducible] def fRFlProg_r13 : List (DOper × List Nat) := [
  o1 9 (.mv (.k (.int .i64 0))) []]
@[reducible] def fRFlProg_r14 : List (DOper × List Nat) := [
  o1 75 (.mv (.t 9)) [],
  o1 76 (.mv (.t 2)) [],
  o1 77 (.len true (.t 76)) [76],
  o1 78 (.bin false .lss (.t 75) (.t 77)) [75, 77]]
@[reducible] def fRFlProg_r15 : List (DOper × List Nat) := [
  o1 81 (.mv (.t 0)) [],
  o1 82 (.call 78 [(.t 81)]) [81],
  o1 10 (.mv (.t 82)) [82]]
@[reducible] def fRFlProg_r16 : List (DOper × List Nat) := [
  o1 11 (.mv (.k (.bool false))) []]
@[reducible] def fRFlProg_r17 : List (DOper × List Nat) := [
  o1 12 (.mv (.k (.int .i64 0))) []]
@[reducible] def fRFlProg_r18 : List (DOper × List Nat) := [
  o1 83 (.mv (.t 12)) [],
  o1 84 (.bin false .lss (.t 83) (.k (.int .i64 4))) [83]]
@[reducible] def fRFlProg_k6 : KCode := (.kill [12, 84] (.exit 4))
@[reducible] def fRFlProg_r19 : List (DOper × List Nat) := [
  o1 87 (.mv (.t 0)) [],
  o1 88 (.nilCheck (.t 87)) [87],
  o1 89 (.fieldAddr 0 (.t 88)) [88],
  o1 90 (.load none (.t 89)) [89],
  o1 91 (.mv (.t 1)) [],
  o1 92 (.mv (.t 9)) [],
  o1 93 (.bin false .add (.t 91) (.t 92)) [91, 92],
  o1 94 (.mv (.t 12)) [],
  o1 95 (.bin false .add (.t 93) (.t 94)) [93, 94],
  o1 96 (.idxS 1 (.t 90) (.t 95)) [90, 95],
  o1 97 (.load none (.t 96)) [96],
  o1 13 (.mv (.t 97)) [97]]
@[reducible] def fRFlProg_r20 : List (DOper × List Nat) := [
  o1 98 (.mv (.t 13)) [],
  o1 99 (.mv (.t 2)) [],
  o1 100 (.mv (.t 9)) [],
  o1 101 (.mv (.t 12)) [],
  o1 102 (.bin false .add (.t 100) (.t 101)) [100, 101],
  o1 103 (.idxS 1 (.t 99) (.t 102)) [99, 102],
  o1 104 (.load none (.t 103)) [103],
  o1 105 (.bin false .andNot (.t 98) (.t 104)) [98, 104],
  o1 14 (.mv (.t 105)) [105]]
@[reducible] def fRFlProg_r21 : List (DOper × List Nat) := [
  o1 106 (.mv (.t 10)) []]
@[reducible] def fRFlProg_r22 : List (DOper × List Nat) := [
  o1 107 (.mv (.t 14)) [14],
  o1 108 (.mv (.t 0)) [],
  o1 109 (.nilCheck (.t 108)) [108],
  o1 110 (.fieldAddr 5 (.t 109)) [109],
  o1 111 (.load none (.t 110)) [110],
  o1 112 (.mv (.t 12)) [],
  o1 113 (.bin false .mul (.k (.int .i64 8)) (.t 112)) [112],
  o1 114 (.bin false .shr (.t 111) (.t 113)) [111, 113],
  o1 115 (.convI .u8 (.t 114)) [114],
  o1 116 (.bin false .and (.t 107) (.t 115)) [107, 115],
  o1 14 (.mv (.t 116)) [116]]
@[reducible] def fRFlProg_k7 : KCode := (.kill [106] (.reg fRFlProg_r22))
@[reducible] def fRFlProg_r23 : List (DOper × List Nat) := [
  o1 117 (.mv (.t 0)) [],
  o1 118 (.nilCheck (.t 117)) [117],
  o1 119 (.fieldAddr 0 (.t 118)) [118],
  o1 120 (.load none (.t 119)) [119],
  o1 121 (.mv (.t 1)) [],
  o1 122 (.mv (.t 9)) [],
  o1 123 (.bin false .add (.t 121) (.t 122)) [121, 122],
  o1 124 (.mv (.t 12)) [],
  o1 125 (.bin false .add (.t 123) (.t 124)) [123, 124],
  o1 126 (.mv (.t 13)) [],
  o1 127 (.mv (.t 14)) [14],
  o1 128 (.bin false .sub (.t 126) (.t 127)) [126, 127],
  o1 129 (.idxS 1 (.t 120) (.t 125)) [120, 125],
  (⟨⟨none, none, .store 1 (.t 129) (.t 128)⟩, 0, []⟩, [128, 129])]
@[reducible] def fRFlProg_r24 : List (DOper × List Nat) := [
  o1 130 (.mv (.t 11)) [11],
  o1 131 (.mv (.t 130)) [130],
  (⟨⟨(some 132), (some (131, false)), .mv (.t 2)⟩, 0, []⟩, []),
  (⟨⟨(some 133), (some (131, false)), .mv (.t 9)⟩, 0, []⟩, []),
  (⟨⟨(some 134), (some (131, false)), .mv (.t 12)⟩, 0, []⟩, []),
  (⟨⟨(some 135), (some (131, false)), .bin false .add (.t 133) (.t 134)⟩, 0, []⟩, [133, 134]),
  (⟨⟨(some 136), (some (131, false)), .idxS 1 (.t 132) (.t 135)⟩, 0, []⟩, [132, 135]),
  (⟨⟨(some 137), (some (131, false)), .load none (.t 136)⟩, 0, []⟩, [136]),
  (⟨⟨(some 138), (some (131, false)), .mv (.t 13)⟩, 0, []⟩, [13]),
  (⟨⟨(some 139), (some (131, false)), .bin false .andNot (.t 137) (.t 138)⟩, 0, []⟩, [137, 138]),
  (⟨⟨(some 140), (some (131, false)), .bin false .neq (.t 139) (.k (.int .u8 0))⟩, 0, []⟩, [139]),
  o1 141 (.pick (.t 131) (.k (.bool true)) (.t 140)) [131, 140],
  o1 11 (.mv (.t 141)) [141]]
@[reducible] def fRFlProg_r25 : List (DOper × List Nat) := [
  o1 85 (.mv (.t 12)) [12],
  o1 86 (.bin false .add (.t 85) (.k (.int .i64 1))) [85],
  o1 12 (.mv (.t 86)) [86]]
/-- live: [0, 1, 2, 9, 10, 11, 12] -/
@[reducible] def fRFlProg_l8 : KCode := (.seq (.seq (.reg fRFlProg_r18) (.cond (.t 84) (.kill [84] .skip) fRFlProg_k6)) (.kill [83, 84] (.seq (.block 5 (.seq (.reg fRFlProg_r19) (.seq (.reg fRFlProg_r20) (.seq (.seq (.reg fRFlProg_r21) (.cond (.t 106) fRFlProg_k7 (.kill [106] .skip))) (.keep [0, 1, 2, 9, 10, 11, 12, 13, 14] (.seq (.reg fRFlProg_r23) (.reg fRFlProg_r24))))))) (.keep [0, 1, 2, 9, 10, 11, 12] (.reg fRFlProg_r25)))))
@[reducible] def fRFlProg_r26 : List (DOper × List Nat) := [
  o1 142 (.mv (.t 10)) [10]]
@[reducible] def fRFlProg_r27 : List (DOper × List Nat) := [
  o1 6 (.mv (.k (.int .i64 5))) []]
@[reducible] def fRFlProg_k9 : KCode := (.keep [] (.seq (.reg fRFlProg_r27) .ret))
@[reducible] def fRFlProg_r28 : List (DOper × List Nat) := [
  o1 143 (.mv (.t 11)) [11]]
@[reducible] def fRFlProg_r29 : List (DOper × List Nat) := [
  o1 6 (.mv (.k (.int .i64 6))) []]
@[reducible] def fRFlProg_k10 : KCode := (.keep [] (.seq (.reg fRFlProg_r29) .ret))
@[reducible] def fRFlProg_r30 : List (DOper × List Nat) := [
  o1 79 (.mv (.t 9)) [9],
  o1 80 (.bin false .add (.t 79) (.k (.int .i64 4))) [79],
  o1 9 (.mv (.t 80)) [80]]
/-- live: [0, 1, 2, 9] -/
@[reducible] def fRFlProg_l11 : KCode := (.seq (.seq (.reg fRFlProg_r14) (.cond (.t 78) (.kill [78] .skip) (.keep [] (.exit 2)))) (.kill [75, 76, 77, 78] (.seq (.block 3 (.seq (.reg fRFlProg_r15) (.seq (.reg fRFlProg_r16) (.seq (.seq (.reg fRFlProg_r17) (.block 4 (.loop fRFlProg_l8))) (.keep [0, 1, 2, 9, 10, 11] (.seq (.seq (.reg fRFlProg_r26) (.cond (.t 142) fRFlProg_k9 (.kill [142] .skip))) (.kill [6, 10, 142] (.seq (.reg fRFlProg_r28) (.cond (.t 143) fRFlProg_k10 (.kill [143] .skip)))))))))) (.keep [0, 1, 2, 9] (.reg fRFlProg_r30)))))
@[reducible] def fRFlProg_r31 : List (DOper × List Nat) := [
  o1 6 (.mv (.k (.int .i64 0))) []]
/-- (*bosun/bosunref01.Flash).Program -/
@[reducible] def fRFlProg : KCode := (.seq (.reg fRFlProg_r0) (.seq (.seq (.reg fRFlProg_r1) (.cond (.t 18) fRFlProg_k0 (.kill [18] .skip))) (.keep [0, 1, 2] (.seq (.seq (.reg fRFlProg_r3) (.cond (.t 27) fRFlProg_k1 (.kill [27] .skip))) (.keep [0, 1, 2] (.seq (.seq (.reg fRFlProg_r5) (.cond (.t 50) fRFlProg_k2 (.kill [50] .skip))) (.keep [0, 1, 2] (.seq (.seq (.reg fRFlProg_r7) (.block 0 (.loop fRFlProg_l5))) (.keep [0, 1, 2] (.seq (.seq (.reg fRFlProg_r13) (.block 2 (.loop fRFlProg_l11))) (.keep [] (.seq (.reg fRFlProg_r31) .ret))))))))))))
@[reducible] def fRFlProg_rs : List IRes := [.tmp 6]
theorem fRFlProg_low : lowFunc Try.prog 67 [] [] = some ⟨fRFlProg.bare, fRFlProg_rs, 144⟩ := by kernel_rfl

@[reducible] def fRFlFails_r0 : List (DOper × List Nat) := [
  o1 2 (.mv (.k (.bool false))) [2]]
@[reducible] def fRFlFails_r1 : List (DOper × List Nat) := [
  o1 3 (.mv (.t 0)) [],
  o1 4 (.nilCheck (.t 3)) [3],
  o1 5 (.fieldAddr 3 (.t 4)) [4],
  o1 6 (.load none (.t 5)) [5],
  o1 7 (.mv (.t 6)) [6],
  (⟨⟨(some 8), (some (7, true)), .mv (.t 0)⟩, 0, []⟩, []),
  (⟨⟨(some 9), (some (7, true)), .nilCheck (.t 8)⟩, 0, []⟩, [8]),
  (⟨⟨(some 10), (some (7, true)), .fieldAddr 4 (.t 9)⟩, 0, []⟩, [9]),
  (⟨⟨(some 11), (some (7, true)), .load none (.t 10)⟩, 0, []⟩, [10]),
  (⟨⟨(some 12), (some (7, true)), .bin false .eql (.t 11) (.k (.int .i64 0))⟩, 0, []⟩, [11]),
  o1 13 (.pick (.t 7) (.t 12) (.k (.bool false))) [7, 12]]
@[reducible] def fRFlFails_r2 : List (DOper × List Nat) := [
  o1 14 (.mv (.t 0)) [],
  o1 15 (.nilCheck (.t 14)) [14],
  o1 16 (.fieldAddr 3 (.t 15)) [15],
  (⟨⟨none, none, .store 1 (.t 16) (.k (.bool false))⟩, 0, []⟩, [16])]
@[reducible] def fRFlFails_r3 : List (DOper × List Nat) := [
  o1 17 (.mv (.t 0)) [0],
  o1 18 (.nilCheck (.t 17)) [17],
  o1 19 (.fieldAddr 6 (.t 18)) [18],
  (⟨⟨none, none, .store 1 (.t 19) (.k (.bool true))⟩, 0, []⟩, [19])]
@[reducible] def fRFlFails_r4 : List (DOper × List Nat) := [
  o1 2 (.mv (.k (.bool true))) []]
@[reducible] def fRFlFails_k0 : KCode := (.kill [13] (.seq (.reg fRFlFails_r2) (.seq (.reg fRFlFails_r3) (.seq (.reg fRFlFails_r4) .ret))))
@[reducible] def fRFlFails_r5 : List (DOper × List Nat) := [
  o1 20 (.mv (.t 0)) [],
  o1 21 (.nilCheck (.t 20)) [20],
  o1 22 (.fieldAddr 3 (.t 21)) [21],
  o1 23 (.load none (.t 22)) [22]]
@[reducible] def fRFlFails_r6 : List (DOper × List Nat) := [
  o1 24 (.mv (.t 0)) [],
  o1 25 (.nilCheck (.t 24)) [],
  o1 26 (.fieldAddr 4 (.t 25)) [25],
  o1 27 (.load none (.t 26)) [26],
  o1 28 (.bin false .sub (.t 27) (.k (.int .i64 1))) [27],
  o1 29 (.nilCheck (.t 24)) [24],
  o1 30 (.fieldAddr 4 (.t 29)) [29],
  (⟨⟨none, none, .store 1 (.t 30) (.t 28)⟩, 0, []⟩, [28, 30])]
@[reducible] def fRFlFails_k1 : KCode := (.kill [23] (.reg fRFlFails_r6))
@[reducible] def fRFlFails_r7 : List (DOper × List Nat) := [
  o1 31 (.mv (.t 0)) [0],
  o1 32 (.nilCheck (.t 31)) [],
  o1 33 (.fieldAddr 8 (.t 32)) [32],
  o1 34 (.load none (.t 33)) [33],
  o1 35 (.bin false .add (.t 34) (.k (.int .i64 1))) [34],
  o1 36 (.nilCheck (.t 31)) [31],
  o1 37 (.fieldAddr 8 (.t 36)) [36],
  (⟨⟨none, none, .store 1 (.t 37) (.t 35)⟩, 0, []⟩, [35, 37])]
@[reducible] def fRFlFails_r8 : List (DOper × List Nat) := [
  o1 2 (.mv (.k (.bool false))) []]
/-- (*bosun/bosunref01.Flash).fails -/
@[reducible] def fRFlFails : KCode := (.seq (.reg fRFlFails_r0) (.seq (.seq (.reg fRFlFails_r1) (.cond (.t 13) fRFlFails_k0 (.kill [13] .skip))) (.keep [0] (.seq (.seq (.reg fRFlFails_r5) (.cond (.t 23) fRFlFails_k1 (.kill [23] .skip))) (.keep [0] (.seq (.reg fRFlFails_r7) (.seq (.reg fRFlFails_r8) .ret)))))))
@[reducible] def fRFlFails_rs : List IRes := [.tmp 2]
theorem fRFlFails_low : lowFunc Try.prog 78 [] [] = some ⟨fRFlFails.bare, fRFlFails_rs, 38⟩ := by kernel_rfl

@[reducible] def fRSetLoad_r0 : List (DOper × List Nat) := [
  o1 2 (.alloc 81 [(.int .u32 0), (.int .u32 0), (.int .u32 0), (.int .u32 0), (.int .u32 0), (.int .u8 0), (.list 1 ⟨true, true, false⟩ [])]) [],
  o1 3 (.mv (.k (.int .i64 0))) [3],
  o1 4 (.mv (.k (.int .i64 0))) [4]]
@[reducible] def fRSetLoad_r1 : List (DOper × List Nat) := [
  o1 9 (.mv (.t 0)) [],
  o1 10 (.nilCheck (.t 9)) [9],
  o1 11 (.fieldAddr 7 (.t 10)) [10],
  o1 12 (.load none (.t 11)) [11],
  o1 13 (.len true (.t 12)) [12],
  o1 14 (.bin false .lss (.t 13) (.k (.int .i64 2))) [13]]
@[reducible] def fRSetLoad_r2 : List (DOper × List Nat) := [
  o1 15 (.build [(.int .u32 0), (.int .u32 0), (.int .u32 0), (.int .u32 0), (.int .u32 0), (.int .u8 0), (.list 1 ⟨true, true, false⟩ [])] []) [],
  (⟨⟨none, none, .store 7 (.t 2) (.t 15)⟩, 0, []⟩, [15]),
  o1 3 (.mv (.k (.int .i64 0))) [],
  o1 4 (.mv (.k (.int .i64 1))) []]
@[reducible] def fRSetLoad_k0 : KCode := (.keep [2] (.seq (.reg fRSetLoad_r2) .ret))
@[reducible] def fRSetLoad_r3 : List (DOper × List Nat) := [
  o1 16 (.mv (.t 0)) [],
  o1 17 (.nilCheck (.t 16)) [16],
  o1 18 (.fieldAddr 6 (.t 17)) [17],
  o1 19 (.load none (.t 18)) [18]]
@[reducible] def fRSetLoad_r4 : List (DOper × List Nat) := [
  o1 20 (.build [(.int .u32 0), (.int .u32 0), (.int .u32 0), (.int .u32 0), (.int .u32 0), (.int .u8 0), (.list 1 ⟨true, true, false⟩ [])] []) [],
  (⟨⟨none, none, .store 7 (.t 2) (.t 20)⟩, 0, []⟩, [20]),
  o1 3 (.mv (.k (.int .i64 0))) [],
  o1 4 (.mv (.k (.int .i64 5))) []]
@[reducible] def fRSetLoad_k1 : KCode := (.keep [2] (.seq (.reg fRSetLoad_r4) .ret))
@[reducible] def fRSetLoad_r5 : List (DOper × List Nat) := [
  o1 22 (.mv (.t 0)) [],
  o1 23 (.nilCheck (.t 22)) [22],
  o1 24 (.fieldAddr 0 (.t 23)) [23],
  o1 25 (.load none (.t 24)) [24],
  o1 26 (.slS 1 (.t 25) none (some (.k (.int .i64 160))) none) [25],
  o1 27 (.call 74 [(.t 26)]) [26],
  o1 21 (.mv (.t 27)) [27],
  o1 28 (.extract 0 (.t 21)) [],
  o1 29 (.extract 1 (.t 21)) [21],
  o1 5 (.alloc 81 [(.int .u32 0), (.int .u32 0), (.int .u32 0), (.int .u32 0), (.int .u32 0), (.int .u8 0), (.list 1 ⟨true, true, false⟩ [])]) [],
  (⟨⟨none, none, .store 7 (.t 5) (.t 28)⟩, 0, []⟩, [28]),
  o1 6 (.mv (.t 29)) [29]]
@[reducible] def fRSetLoad_r6 : List (DOper × List Nat) := [
  o1 31 (.mv (.t 0)) [0],
  o1 32 (.nilCheck (.t 31)) [31],
  o1 33 (.fieldAddr 0 (.t 32)) [32],
  o1 34 (.load none (.t 33)) [33],
  o1 35 (.slS 1 (.t 34) (some (.k (.int .i64 256))) (some (.k (.int .i64 416))) none) [34],
  o1 36 (.call 74 [(.t 35)]) [35],
  o1 30 (.mv (.t 36)) [36],
  o1 37 (.extract 0 (.t 30)) [],
  o1 38 (.extract 1 (.t 30)) [30],
  o1 7 (.alloc 81 [(.int .u32 0), (.int .u32 0), (.int .u32 0), (.int .u32 0), (.int .u32 0), (.int .u8 0), (.list 1 ⟨true, true, false⟩ [])]) [],
  (⟨⟨none, none, .store 7 (.t 7) (.t 37)⟩, 0, []⟩, [37]),
  o1 8 (.mv (.t 38)) [38]]
@[reducible] def fRSetLoad_r7 : List (DOper × List Nat) := [
  o1 39 (.mv (.t 6)) [],
  o1 40 (.bin false .neq (.t 39) (.k (.int .i64 0))) [39],
  o1 41 (.mv (.t 40)) [40],
  (⟨⟨(some 42), (some (41, true)), .mv (.t 8)⟩, 0, []⟩, []),
  (⟨⟨(some 43), (some (41, true)), .bin false .neq (.t 42) (.k (.int .i64 0))⟩, 0, []⟩, [42]),
  o1 44 (.pick (.t 41) (.t 43) (.k (.bool false))) [41, 43]]
@[reducible] def fRSetLoad_r8 : List (DOper × List Nat) := [
  o1 45 (.build [(.int .u32 0), (.int .u32 0), (.int .u32 0), (.int .u32 0), (.int .u32 0), (.int .u8 0), (.list 1 ⟨true, true, false⟩ [])] []) [],
  (⟨⟨none, none, .store 7 (.t 2) (.t 45)⟩, 0, []⟩, [45]),
  o1 3 (.mv (.k (.int .i64 0))) [],
  o1 4 (.mv (.k (.int .i64 15))) []]
@[reducible] def fRSetLoad_k2 : KCode := (.keep [2] (.seq (.reg fRSetLoad_r8) .ret))
@[reducible] def fRSetLoad_r9 : List (DOper × List Nat) := [
  o1 46 (.mv (.t 6)) [6],
  o1 47 (.bin false .neq (.t 46) (.k (.int .i64 0))) [46],
  o1 48 (.mv (.t 47)) [47],
  (⟨⟨(some 49), (some (48, false)), .mv (.t 8)⟩, 0, []⟩, [8]),
  (⟨⟨(some 50), (some (48, false)), .bin false .eql (.t 49) (.k (.int .i64 0))⟩, 0, []⟩, [49]),
  (⟨⟨(some 51), (some (48, false)), .mv (.t 50)⟩, 0, []⟩, [50]),
  (⟨⟨(some 52), (some (51, true)), .fieldAddr 0 (.t 7)⟩, 0, []⟩, []),
  (⟨⟨(some 53), (some (51, true)), .load none (.t 52)⟩, 0, []⟩, [52]),
  (⟨⟨(some 54), (some (51, true)), .fieldAddr 0 (.t 5)⟩, 0, []⟩, []),
  (⟨⟨(some 55), (some (51, true)), .load none (.t 54)⟩, 0, []⟩, [54]),
  (⟨⟨(some 56), (some (51, true)), .bin false .gtr (.t 53) (.t 55)⟩, 0, []⟩, [53, 55]),
  (⟨⟨(some 57), (some (48, false)), .pick (.t 51) (.t 56) (.k (.bool false))⟩, 0, []⟩, [51, 56]),
  o1 58 (.pick (.t 48) (.k (.bool true)) (.t 57)) [48, 57]]
@[reducible] def fRSetLoad_r10 : List (DOper × List Nat) := [
  o1 59 (.load (some 7) (.t 7)) [7],
  (⟨⟨none, none, .store 7 (.t 2) (.t 59)⟩, 0, []⟩, [59]),
  o1 3 (.mv (.k (.int .i64 1))) [],
  o1 4 (.mv (.k (.int .i64 0))) []]
@[reducible] def fRSetLoad_k3 : KCode := (.kill [5, 58] (.seq (.reg fRSetLoad_r10) .ret))
@[reducible] def fRSetLoad_r11 : List (DOper × List Nat) := [
  o1 60 (.load (some 7) (.t 5)) [5],
  (⟨⟨none, none, .store 7 (.t 2) (.t 60)⟩, 0, []⟩, [60]),
  o1 3 (.mv (.k (.int .i64 0))) [],
  o1 4 (.mv (.k (.int .i64 0))) []]
/-- bosun/bosunref14.Load -/
@[reducible] def fRSetLoad : KCode := (.seq (.reg fRSetLoad_r0) (.seq (.seq (.reg fRSetLoad_r1) (.cond (.t 14) fRSetLoad_k0 (.kill [14] .skip))) (.keep [0, 2] (.seq (.seq (.reg fRSetLoad_r3) (.cond (.t 19) fRSetLoad_k1 (.kill [19] .skip))) (.keep [0, 2] (.seq (.reg fRSetLoad_r5) (.seq (.reg fRSetLoad_r6) (.seq (.seq (.reg fRSetLoad_r7) (.cond (.t 44) fRSetLoad_k2 (.kill [44] .skip))) (.keep [2, 5, 6, 7, 8] (.seq (.seq (.reg fRSetLoad_r9) (.cond (.t 58) fRSetLoad_k3 (.kill [7, 58] .skip))) (.keep [2, 5] (.seq (.reg fRSetLoad_r11) .ret))))))))))))
@[reducible] def fRSetLoad_rs : List IRes := [.cell 2 (some 7), .tmp 3, .tmp 4]
theorem fRSetLoad_low : lowFunc Try.prog 49 [] [] = some ⟨fRSetLoad.bare, fRSetLoad_rs, 61⟩ := by kernel_rfl

@[reducible] def fRSetSave_r0 : List (DOper × List Nat) := [
  o1 3 (.box 81 (.t 1)) [1],
  o1 4 (.alloc 81 [(.int .u32 0), (.int .u32 0), (.int .u32 0), (.int .u32 0), (.int .u32 0), (.int .u8 0), (.list 1 ⟨true, true, false⟩ [])]) [],
  o1 5 (.mv (.k (.int .i64 0))) [5]]
@[reducible] def fRSetSave_r1 : List (DOper × List Nat) := [
  o1 12 (.mv (.t 0)) [],
  o1 13 (.call 49 [(.t 12)]) [12],
  o1 11 (.mv (.t 13)) [13],
  o1 14 (.extract 0 (.t 11)) [],
  o1 15 (.extract 1 (.t 11)) [],
  o1 16 (.extract 2 (.t 11)) [11],
  o1 6 (.alloc 81 [(.int .u32 0), (.int .u32 0), (.int .u32 0), (.int .u32 0), (.int .u32 0), (.int .u8 0), (.list 1 ⟨true, true, false⟩ [])]) [],
  (⟨⟨none, none, .store 7 (.t 6) (.t 14)⟩, 0, []⟩, [14]),
  o1 7 (.mv (.t 15)) [15],
  o1 8 (.mv (.t 16)) [16]]
@[reducible] def fRSetSave_r2 : List (DOper × List Nat) := [
  o1 17 (.mv (.t 7)) [7],
  o1 18 (.bin false .sub (.k (.int .i64 1)) (.t 17)) [17],
  o1 9 (.mv (.t 18)) [18]]
@[reducible] def fRSetSave_r3 : List (DOper × List Nat) := [
  o1 19 (.mv (.t 8)) [],
  o1 20 (.bin false .eql (.t 19) (.k (.int .i64 15))) [19]]
@[reducible] def fRSetSave_r4 : List (DOper × List Nat) := [
  o1 9 (.mv (.k (.int .i64 0))) []]
@[reducible] def fRSetSave_r5 : List (DOper × List Nat) := [
  o1 21 (.mv (.t 8)) [],
  o1 22 (.bin false .neq (.t 21) (.k (.int .i64 0))) [21]]
@[reducible] def fRSetSave_r6 : List (DOper × List Nat) := [
  o1 23 (.build [(.int .u32 0), (.int .u32 0), (.int .u32 0), (.int .u32 0), (.int .u32 0), (.int .u8 0), (.list 1 ⟨true, true, false⟩ [])] []) [],
  o1 24 (.mv (.t 8)) [8],
  (⟨⟨none, none, .store 7 (.t 4) (.t 23)⟩, 0, []⟩, [23]),
  o1 5 (.mv (.t 24)) [24]]
@[reducible] def fRSetSave_k0 : KCode := (.keep [4, 8] (.seq (.reg fRSetSave_r6) .ret))
@[reducible] def fRSetSave_k1 : KCode := (.kill [8, 9, 20] (.reg fRSetSave_r4))
@[reducible] def fRSetSave_k2 : KCode := (.kill [20] (.seq (.reg fRSetSave_r5) (.cond (.t 22) fRSetSave_k0 (.kill [8, 22] .skip))))
@[reducible] def fRSetSave_r7 : List (DOper × List Nat) := [
  o1 25 (.fieldAddr 0 (.t 6)) [],
  o1 26 (.load none (.t 25)) [25],
  o1 27 (.bin false .eql (.t 26) (.k (.int .u32 4294967295))) [26]]
@[reducible] def fRSetSave_r8 : List (DOper × List Nat) := [
  o1 28 (.build [(.int .u32 0), (.int .u32 0), (.int .u32 0), (.int .u32 0), (.int .u32 0), (.int .u8 0), (.list 1 ⟨true, true, false⟩ [])] []) [],
  (⟨⟨none, none, .store 7 (.t 4) (.t 28)⟩, 0, []⟩, [28]),
  o1 5 (.mv (.k (.int .i64 16))) []]
@[reducible] def fRSetSave_k3 : KCode := (.keep [4] (.seq (.reg fRSetSave_r8) .ret))
@[reducible] def fRSetSave_r9 : List (DOper × List Nat) := [
  o1 29 (.fieldAddr 0 (.t 6)) [6],
  o1 30 (.load none (.t 29)) [29],
  o1 31 (.bin false .add (.t 30) (.k (.int .u32 1))) [30],
  o1 32 (.fieldAddr 0 (.t 3)) [],
  (⟨⟨none, none, .store 1 (.t 32) (.t 31)⟩, 0, []⟩, [31, 32])]
@[reducible] def fRSetSave_r10 : List (DOper × List Nat) := [
  o1 34 (.load (some 7) (.t 3)) [],
  o1 35 (.call 77 [(.t 34)]) [34],
  o1 33 (.mv (.t 35)) [35],
  o1 36 (.extract 0 (.t 33)) [],
  o1 37 (.extract 1 (.t 33)) [33],
  o1 10 (.mv (.t 36)) [36],
  o1 8 (.mv (.t 37)) [37]]
@[reducible] def fRSetSave_r11 : List (DOper × List Nat) := [
  o1 38 (.mv (.t 8)) [],
  o1 39 (.bin false .neq (.t 38) (.k (.int .i64 0))) [38]]
@[reducible] def fRSetSave_r12 : List (DOper × List Nat) := [
  o1 40 (.build [(.int .u32 0), (.int .u32 0), (.int .u32 0), (.int .u32 0), (.int .u32 0), (.int .u8 0), (.list 1 ⟨true, true, false⟩ [])] []) [],
  o1 41 (.mv (.t 8)) [8],
  (⟨⟨none, none, .store 7 (.t 4) (.t 40)⟩, 0, []⟩, [40]),
  o1 5 (.mv (.t 41)) [41]]
@[reducible] def fRSetSave_k4 : KCode := (.keep [4, 8] (.seq (.reg fRSetSave_r12) .ret))
@[reducible] def fRSetSave_r13 : List (DOper × List Nat) := [
  o1 42 (.mv (.t 0)) [],
  o1 43 (.mv (.t 9)) [],
  o1 44 (.bin false .mul (.k (.int .i64 256)) (.t 43)) [43],
  o1 45 (.buildF 5 1 [(.int .u8 0), (.int .u8 0), (.int .u8 0), (.int .u8 0)] [(0, 1, (.k (.int .u8 0))), (1, 1, (.k (.int .u8 0))), (2, 1, (.k (.int .u8 0))), (3, 1, (.k (.int .u8 0)))]) [],
  o1 46 (.call 67 [(.t 42), (.t 44), (.t 45)]) [42, 44, 45],
  o1 8 (.mv (.t 46)) [46]]
@[reducible] def fRSetSave_r14 : List (DOper × List Nat) := [
  o1 47 (.mv (.t 8)) [],
  o1 48 (.bin false .eql (.t 47) (.k (.int .i64 0))) [47]]
@[reducible] def fRSetSave_r15 : List (DOper × List Nat) := [
  o1 49 (.mv (.t 0)) [],
  o1 50 (.mv (.t 9)) [],
  o1 51 (.call 66 [(.t 49), (.t 50)]) [49, 50],
  o1 8 (.mv (.t 51)) [51]]
@[reducible] def fRSetSave_k5 : KCode := (.kill [8, 48] (.reg fRSetSave_r15))
@[reducible] def fRSetSave_r16 : List (DOper × List Nat) := [
  o1 52 (.mv (.t 8)) [],
  o1 53 (.bin false .eql (.t 52) (.k (.int .i64 0))) [52]]
@[reducible] def fRSetSave_r17 : List (DOper × List Nat) := [
  o1 54 (.mv (.t 0)) [0],
  o1 55 (.mv (.t 9)) [9],
  o1 56 (.bin false .mul (.k (.int .i64 256)) (.t 55)) [55],
  o1 57 (.mv (.t 10)) [10],
  o1 58 (.call 67 [(.t 54), (.t 56), (.t 57)]) [54, 56, 57],
  o1 8 (.mv (.t 58)) [58]]
@[reducible] def fRSetSave_k6 : KCode := (.kill [8, 53] (.reg fRSetSave_r17))
@[reducible] def fRSetSave_r18 : List (DOper × List Nat) := [
  o1 59 (.mv (.t 8)) [],
  o1 60 (.bin false .neq (.t 59) (.k (.int .i64 0))) [59]]
@[reducible] def fRSetSave_r19 : List (DOper × List Nat) := [
  o1 61 (.build [(.int .u32 0), (.int .u32 0), (.int .u32 0), (.int .u32 0), (.int .u32 0), (.int .u8 0), (.list 1 ⟨true, true, false⟩ [])] []) [],
  o1 62 (.mv (.t 8)) [8],
  (⟨⟨none, none, .store 7 (.t 4) (.t 61)⟩, 0, []⟩, [61]),
  o1 5 (.mv (.t 62)) [62]]
@[reducible] def fRSetSave_k7 : KCode := (.kill [3, 60] (.seq (.reg fRSetSave_r19) .ret))
@[reducible] def fRSetSave_r20 : List (DOper × List Nat) := [
  o1 63 (.load (some 7) (.t 3)) [3],
  (⟨⟨none, none, .store 7 (.t 4) (.t 63)⟩, 0, []⟩, [63]),
  o1 5 (.mv (.k (.int .i64 0))) []]
/-- bosun/bosunref14.Save -/
@[reducible] def fRSetSave : KCode := (.seq (.reg fRSetSave_r0) (.seq (.reg fRSetSave_r1) (.seq (.reg fRSetSave_r2) (.seq (.seq (.reg fRSetSave_r3) (.cond (.t 20) fRSetSave_k1 fRSetSave_k2)) (.keep [0, 3, 4, 6, 9] (.seq (.seq (.reg fRSetSave_r7) (.cond (.t 27) fRSetSave_k3 (.kill [27] .skip))) (.kill [5, 25, 26, 27, 28] (.seq (.reg fRSetSave_r9) (.seq (.reg fRSetSave_r10) (.seq (.seq (.reg fRSetSave_r11) (.cond (.t 39) fRSetSave_k4 (.kill [8, 39] .skip))) (.keep [0, 3, 4, 9, 10] (.seq (.reg fRSetSave_r13) (.seq (.seq (.reg fRSetSave_r14) (.cond (.t 48) fRSetSave_k5 (.kill [48] .skip))) (.kill [47, 48, 49, 50, 51] (.seq (.seq (.reg fRSetSave_r16) (.cond (.t 53) fRSetSave_k6 (.keep [3, 4, 8] .skip))) (.keep [3, 4, 8] (.seq (.seq (.reg fRSetSave_r18) (.cond (.t 60) fRSetSave_k7 (.kill [8, 60] .skip))) (.keep [3, 4] (.seq (.reg fRSetSave_r20) .ret)))))))))))))))))))
@[reducible] def fRSetSave_rs : List IRes := [.cell 4 (some 7), .tmp 5]
theorem fRSetSave_low : lowFunc Try.prog 64 [] [] = some ⟨fRSetSave.bare, fRSetSave_rs, 64⟩ := by kernel_rfl

@[reducible] def fRSetSame_r0 : List (DOper × List Nat) := [
  o1 2 (.box 81 (.t 0)) [0],
  o1 3 (.box 81 (.t 1)) [1],
  o1 4 (.mv (.k (.bool false))) [4]]
@[reducible] def fRSetSame_r1 : List (DOper × List Nat) := [
  o1 5 (.fieldAddr 0 (.t 2)) [],
  o1 6 (.load none (.t 5)) [5],
  o1 7 (.fieldAddr 0 (.t 3)) [],
  o1 8 (.load none (.t 7)) [7],
  o1 9 (.bin false .eql (.t 6) (.t 8)) [6, 8],
  o1 10 (.mv (.t 9)) [9],
  (⟨⟨(some 11), (some (10, true)), .fieldAddr 1 (.t 2)⟩, 0, []⟩, []),
  (⟨⟨(some 12), (some (10, true)), .load none (.t 11)⟩, 0, []⟩, [11]),
  (⟨⟨(some 13), (some (10, true)), .fieldAddr 1 (.t 3)⟩, 0, []⟩, []),
  (⟨⟨(some 14), (some (10, true)), .load none (.t 13)⟩, 0, []⟩, [13]),
  (⟨⟨(some 15), (some (10, true)), .bin false .eql (.t 12) (.t 14)⟩, 0, []⟩, [12, 14]),
  o1 16 (.pick (.t 10) (.t 15) (.k (.bool false))) [10, 15],
  o1 17 (.mv (.t 16)) [16],
  (⟨⟨(some 18), (some (17, true)), .fieldAddr 2 (.t 2)⟩, 0, []⟩, []),
  (⟨⟨(some 19), (some (17, true)), .load none (.t 18)⟩, 0, []⟩, [18]),
  (⟨⟨(some 20), (some (17, true)), .fieldAddr 2 (.t 3)⟩, 0, []⟩, []),
  (⟨⟨(some 21), (some (17, true)), .load none (.t 20)⟩, 0, []⟩, [20]),
  (⟨⟨(some 22), (some (17, true)), .bin false .eql (.t 19) (.t 21)⟩, 0, []⟩, [19, 21]),
  o1 23 (.pick (.t 17) (.t 22) (.k (.bool false))) [17, 22],
  o1 24 (.mv (.t 23)) [23],
  (⟨⟨(some 25), (some (24, true)), .fieldAddr 3 (.t 2)⟩, 0, []⟩, []),
  (⟨⟨(some 26), (some (24, true)), .load none (.t 25)⟩, 0, []⟩, [25]),
  (⟨⟨(some 27), (some (24, true)), .fieldAddr 3 (.t 3)⟩, 0, []⟩, []),
  (⟨⟨(some 28), (some (24, true)), .load none (.t 27)⟩, 0, []⟩, [27]),
  (⟨⟨(some 29), (some (24, true)), .bin false .eql (.t 26) (.t 28)⟩, 0, []⟩, [26, 28]),
  o1 30 (.pick (.t 24) (.t 29) (.k (.bool false))) [24, 29],
  o1 31 (.mv (.t 30)) [30],
  (⟨⟨(some 32), (some (31, true)), .fieldAddr 4 (.t 2)⟩, 0, []⟩, []),
  (⟨⟨(some 33), (some (31, true)), .load none (.t 32)⟩, 0, []⟩, [32]),
  (⟨⟨(some 34), (some (31, true)), .fieldAddr 4 (.t 3)⟩, 0, []⟩, []),
  (⟨⟨(some 35), (some (31, true)), .load none (.t 34)⟩, 0, []⟩, [34]),
  (⟨⟨(some 36), (some (31, true)), .bin false .eql (.t 33) (.t 35)⟩, 0, []⟩, [33, 35]),
  o1 37 (.pick (.t 31) (.t 36) (.k (.bool false))) [31, 36],
  o1 38 (.mv (.t 37)) [37],
  (⟨⟨(some 39), (some (38, true)), .fieldAddr 5 (.t 2)⟩, 0, []⟩, []),
  (⟨⟨(some 40), (some (38, true)), .load none (.t 39)⟩, 0, []⟩, [39]),
  (⟨⟨(some 41), (some (38, true)), .fieldAddr 5 (.t 3)⟩, 0, []⟩, []),
  (⟨⟨(some 42), (some (38, true)), .load none (.t 41)⟩, 0, []⟩, [41]),
  (⟨⟨(some 43), (some (38, true)), .bin false .eql (.t 40) (.t 42)⟩, 0, []⟩, [40, 42]),
  o1 44 (.pick (.t 38) (.t 43) (.k (.bool false))) [38, 43],
  o1 45 (.mv (.t 44)) [44],
  (⟨⟨(some 46), (some (45, true)), .fieldAddr 6 (.t 2)⟩, 0, []⟩, [2]),
  (⟨⟨(some 47), (some (45, true)), .load none (.t 46)⟩, 0, []⟩, [46]),
  (⟨⟨(some 48), (some (45, true)), .toStr (.t 47)⟩, 0, []⟩, [47]),
  (⟨⟨(some 49), (some (45, true)), .fieldAddr 6 (.t 3)⟩, 0, []⟩, [3]),
  (⟨⟨(some 50), (some (45, true)), .load none (.t 49)⟩, 0, []⟩, [49]),
  (⟨⟨(some 51), (some (45, true)), .toStr (.t 50)⟩, 0, []⟩, [50]),
  (⟨⟨(some 52), (some (45, true)), .bin false .eql (.t 48) (.t 51)⟩, 0, []⟩, [48, 51]),
  o1 53 (.pick (.t 45) (.t 52) (.k (.bool false))) [45, 52],
  o1 4 (.mv (.t 53)) [53]]
/-- bosun/bosunref14.Same -/
@[reducible] def fRSetSame : KCode := (.seq (.reg fRSetSame_r0) (.seq (.reg fRSetSame_r1) .ret))
@[reducible] def fRSetSame_rs : List IRes := [.tmp 4]
theorem fRSetSame_low : lowFunc Try.prog 50 [] [] = some ⟨fRSetSame.bare, fRSetSame_rs, 54⟩ := by kernel_rfl

end Go.Proofs.Ytjehncilahjmdaa
