/-
  Codes of functions.
-/
import Derived.Test.YtjehncilahjmdaadF5
import Derived.Test.YtjehncilahjmdaaRows
set_option linter.unusedSimpArgs false
set_option linter.unnecessarySimpa false
set_option linter.unusedVariables false
set_option linter.unusedSectionVars false
namespace Go.Proofs.Ytjehncilahjmdaa
open Go.Fw
@[reducible] def fSetRead_r0 : List (DOper × List Nat) := [
  o1 4 (.alloc 100 [(.int .u32 0), (.int .u32 0), (.int .u32 0), (.int .u32 0), (.int .u8 0), (.int .u32 0), (.list 1 ⟨true, true, false⟩ []), (.int .i64 0)]) [],
  o1 5 (.mv (.k (.bool false))) [5]]
@[reducible] def fSetRead_r1 : List (DOper × List Nat) := [
  o1 11 (.mv (.t 0)) [0],
  o1 12 (.mv (.t 1)) [],
  o1 13 (.bin false .mul (.t 12) (.k (.int .i64 256))) [12],
  o1 14 (.call 18 [(.t 11), (.t 13), (.k (.int .i64 160))]) [11, 13],
  o1 10 (.mv (.t 14)) [14],
  o1 15 (.extract 0 (.t 10)) [],
  o1 16 (.extract 1 (.t 10)) [10],
  o1 6 (.mv (.t 15)) [15],
  o1 7 (.mv (.t 16)) [7, 16]]
@[reducible] def fSetRead_r2 : List (DOper × List Nat) := [
  o1 18 (.mv (.t 6)) [6],
  o1 19 (.call 85 [(.t 18)]) [18],
  o1 17 (.mv (.t 19)) [19],
  o1 20 (.extract 0 (.t 17)) [],
  o1 21 (.extract 1 (.t 17)) [17],
  o1 8 (.alloc 42 [(.int .u32 0), (.int .u32 0), (.int .u32 0), (.int .u32 0), (.int .u8 0), (.int .u32 0), (.list 1 ⟨true, true, false⟩ [])]) [],
  (⟨⟨none, none, .store 7 (.t 8) (.t 20)⟩, 0, []⟩, [20]),
  o1 9 (.mv (.t 21)) [21]]
@[reducible] def fSetRead_r3 : List (DOper × List Nat) := [
  o1 22 (.load (some 7) (.t 8)) [8],
  o1 23 (.mv (.t 1)) [1],
  o1 24 (.build [(.int .u32 0), (.int .u32 0), (.int .u32 0), (.int .u32 0), (.int .u8 0), (.int .u32 0), (.list 1 ⟨true, true, false⟩ []), (.int .i64 0)] [(0, 7, (.t 22)), (7, 1, (.t 23))]) [22, 23],
  o1 25 (.mv (.t 9)) [9],
  o1 26 (.bin false .eql (.t 25) (.k (.int .i64 0))) [25],
  (⟨⟨none, none, .store 8 (.t 4) (.t 24)⟩, 0, []⟩, [24]),
  o1 5 (.mv (.t 26)) [26]]
/-- bosun/settings.read -/
@[reducible] def fSetRead : KCode := (.seq (.reg fSetRead_r0) (.seq (.reg fSetRead_r1) (.seq (.reg fSetRead_r2) (.seq (.reg fSetRead_r3) .ret))))
@[reducible] def fSetRead_rs : List IRes := [.cell 4 (some 8), .tmp 5]
theorem fSetRead_low : lowFunc Try.prog 76 [] [] = some ⟨fSetRead.bare, fSetRead_rs, 27⟩ := by kernel_rfl

@[reducible] def fSetNewest_r0 : List (DOper × List Nat) := [
  o1 2 (.alloc 100 [(.int .u32 0), (.int .u32 0), (.int .u32 0), (.int .u32 0), (.int .u8 0), (.int .u32 0), (.list 1 ⟨true, true, false⟩ []), (.int .i64 0)]) [],
  o1 3 (.mv (.k (.bool false))) [3]]
@[reducible] def fSetNewest_r1 : List (DOper × List Nat) := [
  o1 4 (.alloc 100 [(.int .u32 0), (.int .u32 0), (.int .u32 0), (.int .u32 0), (.int .u8 0), (.int .u32 0), (.list 1 ⟨true, true, false⟩ []), (.int .i64 0)]) []]
@[reducible] def fSetNewest_r2 : List (DOper × List Nat) := [
  o1 5 (.mv (.k (.bool false))) []]
@[reducible] def fSetNewest_r3 : List (DOper × List Nat) := [
  o1 9 (.mv (.k (.int .i64 0))) []]
@[reducible] def fSetNewest_r4 : List (DOper × List Nat) := [
  o1 10 (.bin false .lss (.t 9) (.k (.int .i64 2))) []]
@[reducible] def fSetNewest_k0 : KCode := (.kill [0, 9, 10] (.exit 0))
@[reducible] def fSetNewest_r5 : List (DOper × List Nat) := [
  o1 11 (.mv (.t 9)) [],
  o1 6 (.mv (.t 11)) [11]]
@[reducible] def fSetNewest_r6 : List (DOper × List Nat) := [
  o1 13 (.mv (.t 0)) [],
  o1 14 (.mv (.t 6)) [6],
  o1 15 (.call 76 [(.t 13), (.t 14)]) [13, 14],
  o1 12 (.mv (.t 15)) [15],
  o1 16 (.extract 0 (.t 12)) [],
  o1 17 (.extract 1 (.t 12)) [12],
  o1 7 (.alloc 100 [(.int .u32 0), (.int .u32 0), (.int .u32 0), (.int .u32 0), (.int .u8 0), (.int .u32 0), (.list 1 ⟨true, true, false⟩ []), (.int .i64 0)]) [],
  (⟨⟨none, none, .store 8 (.t 7) (.t 16)⟩, 0, []⟩, [16]),
  o1 8 (.mv (.t 17)) [17]]
@[reducible] def fSetNewest_r7 : List (DOper × List Nat) := [
  o1 18 (.mv (.t 8)) [8],
  o1 19 (.mv (.t 18)) [18],
  (⟨⟨(some 20), (some (19, true)), .mv (.t 5)⟩, 0, []⟩, []),
  (⟨⟨(some 21), (some (19, true)), .un .not (.t 20)⟩, 0, []⟩, [20]),
  (⟨⟨(some 22), (some (19, true)), .mv (.t 21)⟩, 0, []⟩, [21]),
  (⟨⟨(some 23), (some (22, false)), .fieldAddr 0 (.t 7)⟩, 0, []⟩, []),
  (⟨⟨(some 24), (some (22, false)), .fieldAddr 0 (.t 23)⟩, 0, []⟩, [23]),
  (⟨⟨(some 25), (some (22, false)), .load none (.t 24)⟩, 0, []⟩, [24]),
  (⟨⟨(some 26), (some (22, false)), .fieldAddr 0 (.t 4)⟩, 0, []⟩, []),
  (⟨⟨(some 27), (some (22, false)), .fieldAddr 0 (.t 26)⟩, 0, []⟩, [26]),
  (⟨⟨(some 28), (some (22, false)), .load none (.t 27)⟩, 0, []⟩, [27]),
  (⟨⟨(some 29), (some (22, false)), .bin false .gtr (.t 25) (.t 28)⟩, 0, []⟩, [25, 28]),
  (⟨⟨(some 30), (some (19, true)), .pick (.t 22) (.k (.bool true)) (.t 29)⟩, 0, []⟩, [22, 29]),
  o1 31 (.pick (.t 19) (.t 30) (.k (.bool false))) [19, 30]]
@[reducible] def fSetNewest_r8 : List (DOper × List Nat) := [
  o1 32 (.load (some 8) (.t 7)) [7],
  (⟨⟨none, none, .store 8 (.t 4) (.t 32)⟩, 0, []⟩, [32]),
  o1 5 (.mv (.k (.bool true))) []]
@[reducible] def fSetNewest_k1 : KCode := (.kill [5, 31] (.reg fSetNewest_r8))
@[reducible] def fSetNewest_r9 : List (DOper × List Nat) := [
  o1 33 (.bin false .add (.t 9) (.k (.int .i64 1))) [9],
  o1 9 (.mv (.t 33)) [33]]
/-- live: [0, 2, 4, 5, 9] -/
@[reducible] def fSetNewest_l2 : KCode := (.seq (.reg fSetNewest_r4) (.seq (.cond (.t 10) (.kill [10] .skip) fSetNewest_k0) (.kill [10] (.seq (.block 1 (.seq (.reg fSetNewest_r5) (.seq (.reg fSetNewest_r6) (.seq (.reg fSetNewest_r7) (.cond (.t 31) fSetNewest_k1 (.kill [7, 31] .skip)))))) (.keep [0, 2, 4, 5, 9] (.reg fSetNewest_r9))))))
@[reducible] def fSetNewest_r10 : List (DOper × List Nat) := [
  o1 34 (.load (some 8) (.t 4)) [4],
  o1 35 (.mv (.t 5)) [5],
  (⟨⟨none, none, .store 8 (.t 2) (.t 34)⟩, 0, []⟩, [34]),
  o1 3 (.mv (.t 35)) [35]]
/-- bosun/settings.newest -/
@[reducible] def fSetNewest : KCode := (.seq (.reg fSetNewest_r0) (.seq (.reg fSetNewest_r1) (.seq (.reg fSetNewest_r2) (.seq (.seq (.reg fSetNewest_r3) (.block 0 (.loop fSetNewest_l2))) (.keep [2, 4, 5] (.seq (.reg fSetNewest_r10) .ret))))))
@[reducible] def fSetNewest_rs : List IRes := [.cell 2 (some 8), .tmp 3]
theorem fSetNewest_low : lowFunc Try.prog 58 [] [] = some ⟨fSetNewest.bare, fSetNewest_rs, 36⟩ := by kernel_rfl

@[reducible] def fSetLoad_r0 : List (DOper × List Nat) := [
  o1 2 (.alloc 42 [(.int .u32 0), (.int .u32 0), (.int .u32 0), (.int .u32 0), (.int .u8 0), (.int .u32 0), (.list 1 ⟨true, true, false⟩ [])]) [],
  o1 3 (.mv (.k (.int .i64 0))) [3],
  o1 4 (.mv (.k (.int .i64 0))) [4]]
@[reducible] def fSetLoad_r1 : List (DOper × List Nat) := [
  o1 8 (.mv (.t 0)) [],
  o1 9 (.isNil false 0 (.t 8)) [8],
  o1 10 (.mv (.t 9)) [9],
  (⟨⟨(some 11), (some (10, false)), .mv (.t 0)⟩, 0, []⟩, []),
  (⟨⟨(some 12), (some (10, false)), .call 21 [(.t 11)]⟩, 0, []⟩, [11]),
  (⟨⟨(some 13), (some (10, false)), .bin false .lss (.t 12) (.k (.int .i64 512))⟩, 0, []⟩, [12]),
  o1 14 (.pick (.t 10) (.k (.bool true)) (.t 13)) [10, 13],
  o1 7 (.mv (.t 14)) [14]]
@[reducible] def fSetLoad_r2 : List (DOper × List Nat) := [
  o1 15 (.build [(.int .u32 0), (.int .u32 0), (.int .u32 0), (.int .u32 0), (.int .u8 0), (.int .u32 0), (.list 1 ⟨true, true, false⟩ [])] []) [],
  (⟨⟨none, none, .store 7 (.t 2) (.t 15)⟩, 0, []⟩, [15]),
  o1 3 (.mv (.k (.int .i64 0))) [],
  o1 4 (.mv (.k (.int .i64 1))) []]
@[reducible] def fSetLoad_r3 : List (DOper × List Nat) := [
  o1 17 (.mv (.t 0)) [],
  o1 18 (.call 16 [(.t 17)]) [17],
  o1 16 (.mv (.t 18)) [18]]
@[reducible] def fSetLoad_r4 : List (DOper × List Nat) := [
  o1 19 (.build [(.int .u32 0), (.int .u32 0), (.int .u32 0), (.int .u32 0), (.int .u8 0), (.int .u32 0), (.list 1 ⟨true, true, false⟩ [])] []) [],
  (⟨⟨none, none, .store 7 (.t 2) (.t 19)⟩, 0, []⟩, [19]),
  o1 3 (.mv (.k (.int .i64 0))) [],
  o1 4 (.mv (.k (.int .i64 5))) []]
@[reducible] def fSetLoad_k0 : KCode := (.keep [2] (.seq (.reg fSetLoad_r4) .ret))
@[reducible] def fSetLoad_k1 : KCode := (.keep [2] (.seq (.reg fSetLoad_r2) .ret))
@[reducible] def fSetLoad_k2 : KCode := (.kill [7] (.seq (.reg fSetLoad_r3) (.cond (.t 16) fSetLoad_k0 (.kill [16] .skip))))
@[reducible] def fSetLoad_r5 : List (DOper × List Nat) := [
  o1 21 (.mv (.t 0)) [0],
  o1 22 (.call 58 [(.t 21)]) [21],
  o1 20 (.mv (.t 22)) [22],
  o1 23 (.extract 0 (.t 20)) [],
  o1 24 (.extract 1 (.t 20)) [20],
  o1 5 (.alloc 100 [(.int .u32 0), (.int .u32 0), (.int .u32 0), (.int .u32 0), (.int .u8 0), (.int .u32 0), (.list 1 ⟨true, true, false⟩ []), (.int .i64 0)]) [],
  (⟨⟨none, none, .store 8 (.t 5) (.t 23)⟩, 0, []⟩, [23]),
  o1 6 (.mv (.t 24)) [24]]
@[reducible] def fSetLoad_r6 : List (DOper × List Nat) := [
  o1 25 (.mv (.t 6)) [6],
  o1 26 (.un .not (.t 25)) [25]]
@[reducible] def fSetLoad_r7 : List (DOper × List Nat) := [
  o1 27 (.build [(.int .u32 0), (.int .u32 0), (.int .u32 0), (.int .u32 0), (.int .u8 0), (.int .u32 0), (.list 1 ⟨true, true, false⟩ [])] []) [],
  (⟨⟨none, none, .store 7 (.t 2) (.t 27)⟩, 0, []⟩, [27]),
  o1 3 (.mv (.k (.int .i64 0))) [],
  o1 4 (.mv (.k (.int .i64 15))) []]
@[reducible] def fSetLoad_k3 : KCode := (.keep [2] (.seq (.reg fSetLoad_r7) .ret))
@[reducible] def fSetLoad_r8 : List (DOper × List Nat) := [
  o1 28 (.fieldAddr 0 (.t 5)) [],
  o2 29 1 (.load (some 7) (.t 28)) [28],
  o2 30 2 (.fieldAddr 7 (.t 5)) [5],
  o2 31 3 (.load none (.t 30)) [30],
  (⟨⟨none, none, .store 7 (.t 2) (.t 29)⟩, 4, [3]⟩, [29]),
  o2 3 5 (.mv (.t 31)) [31],
  o2 4 6 (.mv (.k (.int .i64 0))) []]
/-- bosun/settings.Load -/
@[reducible] def fSetLoad : KCode := (.seq (.reg fSetLoad_r0) (.seq (.block 0 (.seq (.reg fSetLoad_r1) (.cond (.t 7) fSetLoad_k1 fSetLoad_k2))) (.keep [0, 2] (.seq (.reg fSetLoad_r5) (.seq (.seq (.reg fSetLoad_r6) (.cond (.t 26) fSetLoad_k3 (.kill [26] .skip))) (.keep [2, 5] (.seq (.draw fSetLoad_r8) .ret)))))))
@[reducible] def fSetLoad_rs : List IRes := [.cell 2 (some 7), .tmp 3, .tmp 4]
theorem fSetLoad_low : lowFunc Try.prog 25 [] [] = some ⟨fSetLoad.bare, fSetLoad_rs, 32⟩ := by kernel_rfl

@[reducible] def fSetSave_r0 : List (DOper × List Nat) := [
  o1 2 (.box 25 (.t 0)) [0],
  o1 3 (.box 42 (.t 1)) [1],
  o1 4 (.alloc 42 [(.int .u32 0), (.int .u32 0), (.int .u32 0), (.int .u32 0), (.int .u8 0), (.int .u32 0), (.list 1 ⟨true, true, false⟩ [])]) [],
  o1 5 (.mv (.k (.int .i64 0))) [5]]
@[reducible] def fSetSave_r1 : List (DOper × List Nat) := [
  o1 15 (.load none (.t 2)) [],
  o1 16 (.call 25 [(.t 15)]) [15],
  o1 14 (.mv (.t 16)) [16],
  o1 17 (.extract 0 (.t 14)) [],
  o1 18 (.extract 1 (.t 14)) [],
  o1 19 (.extract 2 (.t 14)) [14],
  o1 6 (.alloc 42 [(.int .u32 0), (.int .u32 0), (.int .u32 0), (.int .u32 0), (.int .u8 0), (.int .u32 0), (.list 1 ⟨true, true, false⟩ [])]) [],
  (⟨⟨none, none, .store 7 (.t 6) (.t 17)⟩, 0, []⟩, [17]),
  o1 7 (.mv (.t 18)) [18],
  o1 8 (.mv (.t 19)) [19]]
@[reducible] def fSetSave_r2 : List (DOper × List Nat) := [
  o1 21 (.mv (.t 8)) [],
  o1 22 (.bin false .eql (.t 21) (.k (.int .i64 15))) [21],
  o1 20 (.mv (.t 22)) [22]]
@[reducible] def fSetSave_r3 : List (DOper × List Nat) := [
  o1 7 (.mv (.k (.int .i64 1))) []]
@[reducible] def fSetSave_r4 : List (DOper × List Nat) := [
  o1 24 (.mv (.t 8)) [],
  o1 25 (.bin false .neq (.t 24) (.k (.int .i64 0))) [24],
  o1 23 (.mv (.t 25)) [25]]
@[reducible] def fSetSave_r5 : List (DOper × List Nat) := [
  o1 26 (.build [(.int .u32 0), (.int .u32 0), (.int .u32 0), (.int .u32 0), (.int .u8 0), (.int .u32 0), (.list 1 ⟨true, true, false⟩ [])] []) [],
  o1 27 (.mv (.t 8)) [8],
  (⟨⟨none, none, .store 7 (.t 4) (.t 26)⟩, 0, []⟩, [26]),
  o1 5 (.mv (.t 27)) [27]]
@[reducible] def fSetSave_r6 : List (DOper × List Nat) := [
  o1 29 (.fieldAddr 0 (.t 6)) [],
  o1 30 (.load none (.t 29)) [29],
  o1 31 (.bin false .eql (.t 30) (.k (.int .u32 4294967295))) [30],
  o1 28 (.mv (.t 31)) [31]]
@[reducible] def fSetSave_r7 : List (DOper × List Nat) := [
  o1 32 (.build [(.int .u32 0), (.int .u32 0), (.int .u32 0), (.int .u32 0), (.int .u8 0), (.int .u32 0), (.list 1 ⟨true, true, false⟩ [])] []) [],
  (⟨⟨none, none, .store 7 (.t 4) (.t 32)⟩, 0, []⟩, [32]),
  o1 5 (.mv (.k (.int .i64 16))) []]
@[reducible] def fSetSave_k0 : KCode := (.keep [4] (.seq (.reg fSetSave_r7) .ret))
@[reducible] def fSetSave_k1 : KCode := (.keep [4, 8] (.seq (.reg fSetSave_r5) .ret))
@[reducible] def fSetSave_k2 : KCode := (.kill [8, 23] (.seq (.reg fSetSave_r6) (.cond (.t 28) fSetSave_k0 (.kill [28] .skip))))
@[reducible] def fSetSave_k3 : KCode := (.kill [7, 8, 20] (.reg fSetSave_r3))
@[reducible] def fSetSave_k4 : KCode := (.kill [20] (.seq (.reg fSetSave_r4) (.cond (.t 23) fSetSave_k1 fSetSave_k2)))
@[reducible] def fSetSave_r8 : List (DOper × List Nat) := [
  o1 33 (.fieldAddr 0 (.t 6)) [6],
  o1 34 (.load none (.t 33)) [33],
  o1 35 (.bin false .add (.t 34) (.k (.int .u32 1))) [34],
  o1 36 (.fieldAddr 0 (.t 3)) [],
  (⟨⟨none, none, .store 1 (.t 36) (.t 35)⟩, 0, []⟩, [35, 36])]
@[reducible] def fSetSave_r9 : List (DOper × List Nat) := [
  o1 38 (.load (some 7) (.t 3)) [],
  o1 39 (.call 27 [(.t 38)]) [38],
  o1 37 (.mv (.t 39)) [39],
  o1 40 (.extract 0 (.t 37)) [],
  o1 41 (.extract 1 (.t 37)) [37],
  o1 9 (.alloc 22 [(.list 1 ⟨true, true, false⟩ [])]) [],
  (⟨⟨none, none, .store 1 (.t 9) (.t 40)⟩, 0, []⟩, [40]),
  o1 8 (.mv (.t 41)) [41]]
@[reducible] def fSetSave_r10 : List (DOper × List Nat) := [
  o1 42 (.mv (.t 8)) [],
  o1 43 (.bin false .neq (.t 42) (.k (.int .i64 0))) [42]]
@[reducible] def fSetSave_r11 : List (DOper × List Nat) := [
  o1 44 (.build [(.int .u32 0), (.int .u32 0), (.int .u32 0), (.int .u32 0), (.int .u8 0), (.int .u32 0), (.list 1 ⟨true, true, false⟩ [])] []) [],
  o1 45 (.mv (.t 8)) [8],
  (⟨⟨none, none, .store 7 (.t 4) (.t 44)⟩, 0, []⟩, [44]),
  o1 5 (.mv (.t 45)) [45]]
@[reducible] def fSetSave_k5 : KCode := (.keep [4, 8] (.seq (.reg fSetSave_r11) .ret))
@[reducible] def fSetSave_r12 : List (DOper × List Nat) := [
  o1 46 (.mv (.t 7)) [7],
  o1 47 (.bin false .sub (.k (.int .i64 1)) (.t 46)) [46],
  o1 10 (.alloc 3 [(.int .i64 0)]) [],
  (⟨⟨none, none, .store 1 (.t 10) (.t 47)⟩, 0, []⟩, [47])]
@[reducible] def fSetSave_r13 : List (DOper × List Nat) := [
  o1 48 (.func (.func 59) [] [(.t 2), (.t 10)]) [],
  o1 49 (.func (.func 60) [] [(.t 2), (.t 10)]) [],
  o1 50 (.func (.func 61) [] [(.t 2), (.t 10), (.t 9)]) [2, 9, 10],
  o1 51 (.buildF 103 1 [.nilFunc, .nilFunc, .nilFunc] [(0, 1, (.t 48)), (1, 1, (.t 49)), (2, 1, (.t 50))]) [48, 49, 50],
  o1 52 (.len true (.t 51)) [],
  o1 53 (.mv (.k (.int .i64 0))) []]
@[reducible] def fSetSave_r14 : List (DOper × List Nat) := [
  o1 54 (.bin false .lss (.t 53) (.t 52)) []]
@[reducible] def fSetSave_k6 : KCode := (.keep [3, 4] (.exit 1))
@[reducible] def fSetSave_r15 : List (DOper × List Nat) := [
  o1 55 (.idxS 1 (.t 51) (.t 53)) [],
  o1 56 (.load none (.t 55)) [55],
  o1 12 (.mv (.t 56)) [56]]
@[reducible] def fSetSave_r16 : List (DOper × List Nat) := [
  o1 57 (.mv (.t 12)) [12],
  o1 58 (.callv (.t 57) []) [57],
  o1 13 (.mv (.t 58)) [58]]
@[reducible] def fSetSave_r17 : List (DOper × List Nat) := [
  o1 59 (.mv (.t 13)) [],
  o1 60 (.bin false .neq (.t 59) (.k (.int .i64 0))) [59]]
@[reducible] def fSetSave_r18 : List (DOper × List Nat) := [
  o1 61 (.build [(.int .u32 0), (.int .u32 0), (.int .u32 0), (.int .u32 0), (.int .u8 0), (.int .u32 0), (.list 1 ⟨true, true, false⟩ [])] []) [],
  o1 62 (.mv (.t 13)) [13],
  (⟨⟨none, none, .store 7 (.t 4) (.t 61)⟩, 0, []⟩, [61]),
  o1 5 (.mv (.t 62)) [62]]
@[reducible] def fSetSave_k7 : KCode := (.keep [4, 13] (.seq (.reg fSetSave_r18) .ret))
@[reducible] def fSetSave_r19 : List (DOper × List Nat) := [
  o1 63 (.bin false .add (.t 53) (.k (.int .i64 1))) [53],
  o1 53 (.mv (.t 63)) [63]]
/-- live: [3, 4, 51, 52, 53] -/
@[reducible] def fSetSave_l8 : KCode := (.seq (.reg fSetSave_r14) (.seq (.cond (.t 54) (.kill [54] .skip) fSetSave_k6) (.kill [54] (.seq (.block 2 (.seq (.reg fSetSave_r15) (.seq (.reg fSetSave_r16) (.seq (.reg fSetSave_r17) (.cond (.t 60) fSetSave_k7 (.kill [13, 60] .skip)))))) (.keep [3, 4, 51, 52, 53] (.reg fSetSave_r19))))))
@[reducible] def fSetSave_r20 : List (DOper × List Nat) := [
  o1 64 (.load (some 7) (.t 3)) [3],
  (⟨⟨none, none, .store 7 (.t 4) (.t 64)⟩, 0, []⟩, [64]),
  o1 5 (.mv (.k (.int .i64 0))) []]
/-- bosun/settings.Save -/
@[reducible] def fSetSave : KCode := (.seq (.reg fSetSave_r0) (.seq (.reg fSetSave_r1) (.seq (.block 0 (.seq (.reg fSetSave_r2) (.cond (.t 20) fSetSave_k3 fSetSave_k4))) (.keep [2, 3, 4, 6, 7] (.seq (.reg fSetSave_r8) (.seq (.reg fSetSave_r9) (.seq (.seq (.reg fSetSave_r10) (.cond (.t 43) fSetSave_k5 (.kill [8, 43] .skip))) (.keep [2, 3, 4, 7, 9] (.seq (.reg fSetSave_r12) (.seq (.seq (.reg fSetSave_r13) (.block 1 (.loop fSetSave_l8))) (.keep [3, 4] (.seq (.reg fSetSave_r20) .ret))))))))))))
@[reducible] def fSetSave_rs : List IRes := [.cell 4 (some 7), .tmp 5]
theorem fSetSave_low : lowFunc Try.prog 26 [] [] = some ⟨fSetSave.bare, fSetSave_rs, 65⟩ := by kernel_rfl

@[reducible] def fSetSave1_r0 : List (DOper × List Nat) := [
  o1 2 (.mv (.k (.int .i64 0))) [2]]
@[reducible] def fSetSave1_r1 : List (DOper × List Nat) := [
  o1 3 (.load none (.t 0)) [0],
  o2 4 1 (.load none (.t 1)) [1],
  o2 5 2 (.bin false .mul (.t 4) (.k (.int .i64 256))) [4],
  (⟨⟨(some 6), none, .makeS 5 1 1 [(.int .u8 0)] (.k (.int .i64 4)) (.k (.int .i64 4))⟩, 3, [1, 0]⟩, []),
  o2 7 4 (.call 15 [(.t 3), (.t 5), (.t 6)]) [3, 5, 6],
  o2 2 5 (.mv (.t 7)) [7]]
/-- bosun/settings.Save$1 -/
@[reducible] def fSetSave1 : KCode := (.seq (.reg fSetSave1_r0) (.seq (.draw fSetSave1_r1) .ret))
@[reducible] def fSetSave1_rs : List IRes := [.tmp 2]
theorem fSetSave1_low : lowFunc Try.prog 59 [] [] = some ⟨fSetSave1.bare, fSetSave1_rs, 8⟩ := by kernel_rfl

@[reducible] def fSetSave2_r0 : List (DOper × List Nat) := [
  o1 2 (.mv (.k (.int .i64 0))) [2]]
@[reducible] def fSetSave2_r1 : List (DOper × List Nat) := [
  o1 3 (.load none (.t 0)) [0],
  o1 4 (.load none (.t 1)) [1],
  o1 5 (.call 19 [(.t 3), (.t 4)]) [3, 4],
  o1 2 (.mv (.t 5)) [5]]
/-- bosun/settings.Save$2 -/
@[reducible] def fSetSave2 : KCode := (.seq (.reg fSetSave2_r0) (.seq (.reg fSetSave2_r1) .ret))
@[reducible] def fSetSave2_rs : List IRes := [.tmp 2]
theorem fSetSave2_low : lowFunc Try.prog 60 [] [] = some ⟨fSetSave2.bare, fSetSave2_rs, 6⟩ := by kernel_rfl

@[reducible] def fSetSave3_r0 : List (DOper × List Nat) := [
  o1 3 (.mv (.k (.int .i64 0))) [3]]
@[reducible] def fSetSave3_r1 : List (DOper × List Nat) := [
  o1 4 (.load none (.t 0)) [0],
  o1 5 (.load none (.t 1)) [1],
  o1 6 (.bin false .mul (.t 5) (.k (.int .i64 256))) [5],
  o1 7 (.load none (.t 2)) [2],
  o1 8 (.call 15 [(.t 4), (.t 6), (.t 7)]) [4, 6, 7],
  o1 3 (.mv (.t 8)) [8]]
/-- bosun/settings.Save$3 -/
@[reducible] def fSetSave3 : KCode := (.seq (.reg fSetSave3_r0) (.seq (.reg fSetSave3_r1) .ret))
@[reducible] def fSetSave3_rs : List IRes := [.tmp 3]
theorem fSetSave3_low : lowFunc Try.prog 61 [] [] = some ⟨fSetSave3.bare, fSetSave3_rs, 9⟩ := by kernel_rfl

end Go.Proofs.Ytjehncilahjmdaa
