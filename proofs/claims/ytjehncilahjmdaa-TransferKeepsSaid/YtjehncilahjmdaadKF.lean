/-
  Codes of functions.
-/
import Derived.Test.YtjehncilahjmdaaH1
import Derived.Test.YtjehncilahjmdaaRows
set_option linter.unusedSimpArgs false
set_option linter.unnecessarySimpa false
set_option linter.unusedVariables false
set_option linter.unusedSectionVars false
namespace Go.Proofs.Ytjehncilahjmdaa
open Go.Fw
@[reducible] def fCloneB_r0 : List (DOper × List Nat) := [
  o1 2 (.mv (.k (.list 1 ⟨true, true, false⟩ []))) [2]]
@[reducible] def fCloneB_r1 : List (DOper × List Nat) := [
  o1 3 (.mv (.t 0)) []]
@[reducible] def fCloneB_r2 : List (DOper × List Nat) := [
  o1 2 (.mv (.k (.list 1 ⟨true, true, false⟩ []))) []]
@[reducible] def fCloneB_k0 : KCode := (.keep [] (.seq (.reg fCloneB_r2) .ret))
@[reducible] def fCloneB_r3 : List (DOper × List Nat) := [
  o1 5 (.buildF 5 1 [] []) [],
  o1 6 (.mv (.t 0)) [0],
  o1 7 (.appF 5 1 1 (.t 5) (.t 6)) [5, 6],
  o1 2 (.mv (.t 7)) [7]]
/-- slices.Clone[[]byte,byte] -/
@[reducible] def fCloneB : KCode := (.seq (.reg fCloneB_r0) (.seq (.seq (.regN fCloneB_r1 4 false (.t 3) [3]) (.cond (.t 4) fCloneB_k0 (.kill [4] .skip))) (.keep [0] (.seq (.reg fCloneB_r3) .ret))))
@[reducible] def fCloneB_rs : List IRes := [.tmp 2]
theorem fCloneB_low : lowFunc Try.prog 55 [(3, 2)] [] = some ⟨fCloneB.bare, fCloneB_rs, 8⟩ := by kernel_rfl

@[reducible] def fFlGet_r0 : List (DOper × List Nat) := [
  o1 2 (.mv (.k (.int .u32 0))) [2]]
@[reducible] def fFlGet_r1 : List (DOper × List Nat) := [
  o1 3 (.mv (.t 0)) [],
  o2 4 1 (.idxS 1 (.t 3) (.k (.int .i64 0))) [3],
  o2 5 2 (.load none (.t 4)) [4],
  o2 6 3 (.convI .u32 (.t 5)) [5],
  o2 7 4 (.mv (.t 0)) [],
  o2 8 5 (.idxS 1 (.t 7) (.k (.int .i64 1))) [7],
  o2 9 6 (.load none (.t 8)) [8],
  o2 10 7 (.convI .u32 (.t 9)) [9],
  o2 11 8 (.bin false .shl (.t 10) (.k (.int .u64 8))) [10],
  o2 12 9 (.bin false .or (.t 6) (.t 11)) [6, 11],
  o2 13 10 (.mv (.t 0)) [],
  o2 14 11 (.idxS 1 (.t 13) (.k (.int .i64 2))) [13],
  o2 15 12 (.load none (.t 14)) [14],
  o2 16 13 (.convI .u32 (.t 15)) [15],
  o2 17 14 (.bin false .shl (.t 16) (.k (.int .u64 16))) [16],
  o2 18 15 (.bin false .or (.t 12) (.t 17)) [12, 17],
  o2 19 16 (.mv (.t 0)) [0],
  o2 20 17 (.idxS 1 (.t 19) (.k (.int .i64 3))) [19],
  o2 21 18 (.load none (.t 20)) [20],
  o2 22 19 (.convI .u32 (.t 21)) [21],
  o2 23 20 (.bin false .shl (.t 22) (.k (.int .u64 24))) [22],
  o2 24 21 (.bin false .or (.t 18) (.t 23)) [18, 23],
  o2 2 22 (.mv (.t 24)) [24]]
/-- bosun/flash.get -/
@[reducible] def fFlGet : KCode := (.seq (.reg fFlGet_r0) (.seq (.draw fFlGet_r1) .ret))
@[reducible] def fFlGet_rs : List IRes := [.tmp 2]
theorem fFlGet_low : lowFunc Try.prog 54 [] [] = some ⟨fFlGet.bare, fFlGet_rs, 25⟩ := by kernel_rfl

@[reducible] def fFlPut_r0 : List (DOper × List Nat) := [
  o1 5 (.mv (.k (.int .i64 0))) []]
@[reducible] def fFlPut_r1 : List (DOper × List Nat) := [
  o1 6 (.bin false .lss (.t 5) (.k (.int .i64 4))) []]
@[reducible] def fFlPut_r2 : List (DOper × List Nat) := [
  o1 7 (.mv (.t 5)) [],
  o1 4 (.mv (.t 7)) [7]]
@[reducible] def fFlPut_r3 : List (DOper × List Nat) := [
  o1 8 (.mv (.t 0)) [],
  o1 9 (.mv (.t 4)) [],
  o1 10 (.mv (.t 1)) [],
  o1 11 (.mv (.t 4)) [4],
  o1 12 (.bin false .mul (.k (.int .i64 8)) (.t 11)) [11],
  o1 13 (.bin false .shr (.t 10) (.t 12)) [10, 12],
  o1 14 (.convI .u8 (.t 13)) [13],
  o1 15 (.idxS 1 (.t 8) (.t 9)) [8, 9],
  (⟨⟨none, none, .store 1 (.t 15) (.t 14)⟩, 0, []⟩, [14, 15])]
@[reducible] def fFlPut_r4 : List (DOper × List Nat) := [
  o1 16 (.bin false .add (.t 5) (.k (.int .i64 1))) [5],
  o1 5 (.mv (.t 16)) [16]]
/-- live: [0, 1, 5] -/
@[reducible] def fFlPut_l0 : KCode := (.seq (.reg fFlPut_r1) (.seq (.cond (.t 6) (.kill [6] .skip) (.keep [] (.exit 0))) (.kill [6] (.seq (.block 1 (.seq (.reg fFlPut_r2) (.reg fFlPut_r3))) (.keep [0, 1, 5] (.reg fFlPut_r4))))))
/-- bosun/flash.put -/
@[reducible] def fFlPut : KCode := (.seq (.reg fFlPut_r0) (.block 0 (.loop fFlPut_l0)))
@[reducible] def fFlPut_rs : List IRes := []
theorem fFlPut_low : lowFunc Try.prog 75 [] [] = some ⟨fFlPut.bare, fFlPut_rs, 17⟩ := by kernel_rfl

@[reducible] def fFlStep_r0 : List (DOper × List Nat) := [
  o1 2 (.mv (.k (.bool false))) [2]]
@[reducible] def fFlStep_r1 : List (DOper × List Nat) := [
  o1 3 (.mv (.t 0)) [],
  o1 4 (.nilCheck (.t 3)) [3],
  o1 5 (.fieldAddr 4 (.t 4)) [4],
  o1 6 (.load none (.t 5)) [5],
  o1 7 (.mv (.t 6)) [6],
  (⟨⟨(some 8), (some (7, true)), .mv (.t 0)⟩, 0, []⟩, []),
  (⟨⟨(some 9), (some (7, true)), .nilCheck (.t 8)⟩, 0, []⟩, [8]),
  (⟨⟨(some 10), (some (7, true)), .fieldAddr 5 (.t 9)⟩, 0, []⟩, [9]),
  (⟨⟨(some 11), (some (7, true)), .load none (.t 10)⟩, 0, []⟩, [10]),
  (⟨⟨(some 12), (some (7, true)), .bin false .eql (.t 11) (.k (.int .i64 0))⟩, 0, []⟩, [11]),
  o1 13 (.pick (.t 7) (.t 12) (.k (.bool false))) [7, 12]]
@[reducible] def fFlStep_r2 : List (DOper × List Nat) := [
  o1 14 (.mv (.t 0)) [],
  o1 15 (.mv (.t 0)) [0],
  o1 16 (.nilCheck (.t 14)) [14],
  o1 17 (.fieldAddr 7 (.t 16)) [16],
  (⟨⟨none, none, .store 1 (.t 17) (.k (.bool true))⟩, 0, []⟩, [17]),
  o1 18 (.nilCheck (.t 15)) [15],
  o1 19 (.fieldAddr 4 (.t 18)) [18],
  (⟨⟨none, none, .store 1 (.t 19) (.k (.bool false))⟩, 0, []⟩, [19])]
@[reducible] def fFlStep_r3 : List (DOper × List Nat) := [
  o1 2 (.mv (.k (.bool false))) []]
@[reducible] def fFlStep_k0 : KCode := (.kill [13] (.seq (.reg fFlStep_r2) (.seq (.reg fFlStep_r3) .ret)))
@[reducible] def fFlStep_r4 : List (DOper × List Nat) := [
  o1 20 (.mv (.t 0)) [],
  o1 21 (.nilCheck (.t 20)) [20],
  o1 22 (.fieldAddr 4 (.t 21)) [21],
  o1 23 (.load none (.t 22)) [22]]
@[reducible] def fFlStep_r5 : List (DOper × List Nat) := [
  o1 24 (.mv (.t 0)) [],
  o1 25 (.nilCheck (.t 24)) [],
  o1 26 (.fieldAddr 5 (.t 25)) [25],
  o1 27 (.load none (.t 26)) [26],
  o1 28 (.bin false .sub (.t 27) (.k (.int .i64 1))) [27],
  o1 29 (.nilCheck (.t 24)) [24],
  o1 30 (.fieldAddr 5 (.t 29)) [29],
  (⟨⟨none, none, .store 1 (.t 30) (.t 28)⟩, 0, []⟩, [28, 30])]
@[reducible] def fFlStep_k1 : KCode := (.kill [23] (.reg fFlStep_r5))
@[reducible] def fFlStep_r6 : List (DOper × List Nat) := [
  o1 31 (.mv (.t 0)) [0],
  o1 32 (.nilCheck (.t 31)) [],
  o1 33 (.fieldAddr 3 (.t 32)) [32],
  o1 34 (.load none (.t 33)) [33],
  o1 35 (.bin false .add (.t 34) (.k (.int .i64 1))) [34],
  o1 36 (.nilCheck (.t 31)) [31],
  o1 37 (.fieldAddr 3 (.t 36)) [36],
  (⟨⟨none, none, .store 1 (.t 37) (.t 35)⟩, 0, []⟩, [35, 37])]
@[reducible] def fFlStep_r7 : List (DOper × List Nat) := [
  o1 2 (.mv (.k (.bool true))) []]
/-- (*bosun/flash.Flash).step -/
@[reducible] def fFlStep : KCode := (.seq (.reg fFlStep_r0) (.seq (.seq (.reg fFlStep_r1) (.cond (.t 13) fFlStep_k0 (.kill [13] .skip))) (.keep [0] (.seq (.seq (.reg fFlStep_r4) (.cond (.t 23) fFlStep_k1 (.kill [23] .skip))) (.keep [0] (.seq (.reg fFlStep_r6) (.seq (.reg fFlStep_r7) .ret)))))))
@[reducible] def fFlStep_rs : List IRes := [.tmp 2]
theorem fFlStep_low : lowFunc Try.prog 56 [] [] = some ⟨fFlStep.bare, fFlStep_rs, 38⟩ := by kernel_rfl

@[reducible] def fFlLocked_r0 : List (DOper × List Nat) := [
  o1 4 (.mv (.k (.bool false))) [4]]
@[reducible] def fFlLocked_r1 : List (DOper × List Nat) := [
  o1 5 (.mv (.t 1)) [],
  o1 6 (.mv (.t 0)) [],
  o1 7 (.nilCheck (.t 6)) [6],
  o1 8 (.fieldAddr 1 (.t 7)) [7],
  o1 9 (.load none (.t 8)) [8],
  o1 10 (.bin false .geq (.t 5) (.t 9)) [5, 9],
  o1 11 (.mv (.t 10)) [10],
  (⟨⟨(some 12), (some (11, true)), .mv (.t 1)⟩, 0, []⟩, [1]),
  (⟨⟨(some 13), (some (11, true)), .mv (.t 0)⟩, 0, []⟩, [0]),
  (⟨⟨(some 14), (some (11, true)), .nilCheck (.t 13)⟩, 0, []⟩, [13]),
  (⟨⟨(some 15), (some (11, true)), .fieldAddr 2 (.t 14)⟩, 0, []⟩, [14]),
  (⟨⟨(some 16), (some (11, true)), .load none (.t 15)⟩, 0, []⟩, [15]),
  (⟨⟨(some 17), (some (11, true)), .bin false .lss (.t 12) (.t 16)⟩, 0, []⟩, [12, 16]),
  o1 18 (.pick (.t 11) (.t 17) (.k (.bool false))) [11, 17],
  o1 4 (.mv (.t 18)) [18]]
/-- (*bosun/flash.Flash).locked -/
@[reducible] def fFlLocked : KCode := (.seq (.reg fFlLocked_r0) (.seq (.reg fFlLocked_r1) .ret))
@[reducible] def fFlLocked_rs : List IRes := [.tmp 4]
theorem fFlLocked_low : lowFunc Try.prog 52 [] [] = some ⟨fFlLocked.bare, fFlLocked_rs, 19⟩ := by kernel_rfl

@[reducible] def fFlNew_r0 : List (DOper × List Nat) := [
  o1 2 (.mv (.k .nil)) [2],
  o1 3 (.mv (.k (.int .i64 0))) [3]]
@[reducible] def fFlNew_r1 : List (DOper × List Nat) := [
  o1 6 (.mv (.t 0)) [],
  o1 7 (.bin false .lss (.t 6) (.k (.int .i64 1))) [6],
  o1 8 (.mv (.t 7)) [7],
  (⟨⟨(some 9), (some (8, false)), .mv (.t 0)⟩, 0, []⟩, []),
  (⟨⟨(some 10), (some (8, false)), .bin false .gtr (.t 9) (.k (.int .i64 64))⟩, 0, []⟩, [9]),
  o1 11 (.pick (.t 8) (.k (.bool true)) (.t 10)) [8, 10]]
@[reducible] def fFlNew_r2 : List (DOper × List Nat) := [
  o1 2 (.mv (.k .nil)) [],
  o1 3 (.mv (.k (.int .i64 1))) []]
@[reducible] def fFlNew_k0 : KCode := (.keep [] (.seq (.reg fFlNew_r2) .ret))
@[reducible] def fFlNew_r3 : List (DOper × List Nat) := [
  o1 12 (.mv (.t 0)) [],
  o2 13 1 (.bin false .mul (.t 12) (.k (.int .i64 256))) [12],
  o2 14 2 (.makeA 0 0 5 1 1 [(.int .u8 0)] (.t 13) (.t 13)) [13],
  o2 15 3 (.mv (.t 0)) [0],
  o2 16 4 (.makeA 0 1 3 1 8 [(.int .i64 0)] (.t 15) (.t 15)) [15],
  o2 17 5 (.build [(.list 1 ⟨true, true, false⟩ []), (.int .i64 0), (.int .i64 0), (.int .i64 0), (.bool false), (.int .i64 0), (.int .u32 0), (.bool false), (.list 1 ⟨true, true, false⟩ [])] [(0, 1, (.t 14)), (8, 1, (.t 16))]) [14, 16],
  o2 18 6 (.box 95 (.t 17)) [17],
  o2 4 7 (.mv (.t 18)) [18]]
@[reducible] def fFlNew_r4 : List (DOper × List Nat) := [
  o1 19 (.mv (.t 4)) [],
  o1 20 (.nilCheck (.t 19)) [19],
  o1 21 (.fieldAddr 0 (.t 20)) [20],
  o1 22 (.load none (.t 21)) [21],
  o1 23 (.len true (.t 22)) [22],
  o1 24 (.mv (.k (.int .i64 0))) []]
@[reducible] def fFlNew_r5 : List (DOper × List Nat) := [
  o1 25 (.bin false .lss (.t 24) (.t 23)) []]
@[reducible] def fFlNew_r6 : List (DOper × List Nat) := [
  o1 26 (.mv (.t 24)) [],
  o1 5 (.mv (.t 26)) [26]]
@[reducible] def fFlNew_r7 : List (DOper × List Nat) := [
  o1 27 (.mv (.t 4)) [],
  o1 28 (.nilCheck (.t 27)) [27],
  o1 29 (.fieldAddr 0 (.t 28)) [28],
  o1 30 (.load none (.t 29)) [29],
  o1 31 (.mv (.t 5)) [5],
  o1 32 (.idxS 1 (.t 30) (.t 31)) [30, 31],
  (⟨⟨none, none, .store 1 (.t 32) (.k (.int .u8 255))⟩, 0, []⟩, [32])]
@[reducible] def fFlNew_r8 : List (DOper × List Nat) := [
  o1 33 (.bin false .add (.t 24) (.k (.int .i64 1))) [24],
  o1 24 (.mv (.t 33)) [33]]
/-- live: [4, 23, 24] -/
@[reducible] def fFlNew_l1 : KCode := (.seq (.reg fFlNew_r5) (.seq (.cond (.t 25) (.kill [25] .skip) (.keep [4] (.exit 0))) (.kill [25] (.seq (.block 1 (.seq (.reg fFlNew_r6) (.reg fFlNew_r7))) (.keep [4, 23, 24] (.reg fFlNew_r8))))))
@[reducible] def fFlNew_r9 : List (DOper × List Nat) := [
  o1 34 (.mv (.t 4)) [4],
  o1 2 (.mv (.t 34)) [34],
  o1 3 (.mv (.k (.int .i64 0))) []]
/-- bosun/flash.New -/
@[reducible] def fFlNew : KCode := (.seq (.reg fFlNew_r0) (.seq (.seq (.reg fFlNew_r1) (.cond (.t 11) fFlNew_k0 (.kill [11] .skip))) (.keep [0] (.seq (.drawP 0 2 fFlNew_r3) (.seq (.seq (.reg fFlNew_r4) (.block 0 (.loop fFlNew_l1))) (.keep [4] (.seq (.reg fFlNew_r9) .ret)))))))
@[reducible] def fFlNew_rs : List IRes := [.tmp 2, .tmp 3]
theorem fFlNew_low : lowFunc Try.prog 13 [] [(1000003, [0, 2, 4])] = some ⟨fFlNew.bare, fFlNew_rs, 35⟩ := by kernel_rfl

@[reducible] def fFlFail_r0 : List (DOper × List Nat) := [
  o1 6 (.mv (.k (.int .i64 0))) [6]]
@[reducible] def fFlFail_r1 : List (DOper × List Nat) := [
  o1 7 (.mv (.t 0)) [],
  o1 8 (.isNil false 0 (.t 7)) [7],
  o1 9 (.mv (.t 8)) [8],
  (⟨⟨(some 10), (some (9, false)), .mv (.t 1)⟩, 0, []⟩, []),
  (⟨⟨(some 11), (some (9, false)), .bin false .lss (.t 10) (.k (.int .i64 0))⟩, 0, []⟩, [10]),
  o1 12 (.pick (.t 9) (.k (.bool true)) (.t 11)) [9, 11]]
@[reducible] def fFlFail_r2 : List (DOper × List Nat) := [
  o1 6 (.mv (.k (.int .i64 1))) []]
@[reducible] def fFlFail_k0 : KCode := (.keep [] (.seq (.reg fFlFail_r2) .ret))
@[reducible] def fFlFail_r3 : List (DOper × List Nat) := [
  o1 13 (.mv (.t 0)) [],
  o1 14 (.mv (.t 0)) [],
  o1 15 (.mv (.t 0)) [0],
  o1 16 (.mv (.t 1)) [1],
  o1 17 (.mv (.t 2)) [2],
  o1 18 (.nilCheck (.t 13)) [13],
  o1 19 (.fieldAddr 4 (.t 18)) [18],
  (⟨⟨none, none, .store 1 (.t 19) (.k (.bool true))⟩, 0, []⟩, [19]),
  o1 20 (.nilCheck (.t 14)) [14],
  o1 21 (.fieldAddr 5 (.t 20)) [20],
  (⟨⟨none, none, .store 1 (.t 21) (.t 16)⟩, 0, []⟩, [16, 21]),
  o1 22 (.nilCheck (.t 15)) [15],
  o1 23 (.fieldAddr 6 (.t 22)) [22],
  (⟨⟨none, none, .store 1 (.t 23) (.t 17)⟩, 0, []⟩, [17, 23])]
@[reducible] def fFlFail_r4 : List (DOper × List Nat) := [
  o1 6 (.mv (.k (.int .i64 0))) []]
/-- (*bosun/flash.Flash).Fail -/
@[reducible] def fFlFail : KCode := (.seq (.reg fFlFail_r0) (.seq (.seq (.reg fFlFail_r1) (.cond (.t 12) fFlFail_k0 (.kill [12] .skip))) (.keep [0, 1, 2] (.seq (.reg fFlFail_r3) (.seq (.reg fFlFail_r4) .ret)))))
@[reducible] def fFlFail_rs : List IRes := [.tmp 6]
theorem fFlFail_low : lowFunc Try.prog 14 [] [] = some ⟨fFlFail.bare, fFlFail_rs, 24⟩ := by kernel_rfl

@[reducible] def fFlProg_r0 : List (DOper × List Nat) := [
  o1 6 (.mv (.k (.int .i64 0))) [6]]
@[reducible] def fFlProg_r1 : List (DOper × List Nat) := [
  o1 11 (.mv (.t 0)) [],
  o1 12 (.isNil false 0 (.t 11)) [11],
  o1 10 (.mv (.t 12)) [12]]
@[reducible] def fFlProg_r2 : List (DOper × List Nat) := [
  o1 6 (.mv (.k (.int .i64 1))) []]
@[reducible] def fFlProg_r3 : List (DOper × List Nat) := [
  o1 14 (.mv (.t 0)) [],
  o1 15 (.nilCheck (.t 14)) [14],
  o1 16 (.fieldAddr 7 (.t 15)) [15],
  o1 17 (.load none (.t 16)) [16],
  o1 13 (.mv (.t 17)) [17]]
@[reducible] def fFlProg_r4 : List (DOper × List Nat) := [
  o1 6 (.mv (.k (.int .i64 5))) []]
@[reducible] def fFlProg_r5 : List (DOper × List Nat) := [
  o1 19 (.mv (.t 1)) [],
  o1 20 (.bin false .rem (.t 19) (.k (.int .i64 4))) [19],
  o1 21 (.bin false .neq (.t 20) (.k (.int .i64 0))) [20],
  o1 22 (.mv (.t 21)) [21],
  (⟨⟨(some 23), (some (22, false)), .mv (.t 2)⟩, 0, []⟩, []),
  (⟨⟨(some 24), (some (22, false)), .len true (.t 23)⟩, 0, []⟩, [23]),
  (⟨⟨(some 25), (some (22, false)), .bin false .rem (.t 24) (.k (.int .i64 4))⟩, 0, []⟩, [24]),
  (⟨⟨(some 26), (some (22, false)), .bin false .neq (.t 25) (.k (.int .i64 0))⟩, 0, []⟩, [25]),
  o1 27 (.pick (.t 22) (.k (.bool true)) (.t 26)) [22, 26],
  o1 18 (.mv (.t 27)) [27]]
@[reducible] def fFlProg_r6 : List (DOper × List Nat) := [
  o1 6 (.mv (.k (.int .i64 2))) []]
@[reducible] def fFlProg_r7 : List (DOper × List Nat) := [
  o1 29 (.mv (.t 1)) [],
  o1 30 (.bin false .lss (.t 29) (.k (.int .i64 0))) [29],
  o1 31 (.mv (.t 30)) [30],
  (⟨⟨(some 32), (some (31, false)), .mv (.t 1)⟩, 0, []⟩, []),
  (⟨⟨(some 33), (some (31, false)), .mv (.t 0)⟩, 0, []⟩, []),
  (⟨⟨(some 34), (some (31, false)), .nilCheck (.t 33)⟩, 0, []⟩, [33]),
  (⟨⟨(some 35), (some (31, false)), .fieldAddr 0 (.t 34)⟩, 0, []⟩, [34]),
  (⟨⟨(some 36), (some (31, false)), .load none (.t 35)⟩, 0, []⟩, [35]),
  (⟨⟨(some 37), (some (31, false)), .len true (.t 36)⟩, 0, []⟩, [36]),
  (⟨⟨(some 38), (some (31, false)), .bin false .gtr (.t 32) (.t 37)⟩, 0, []⟩, [32, 37]),
  o1 39 (.pick (.t 31) (.k (.bool true)) (.t 38)) [31, 38],
  o1 40 (.mv (.t 39)) [39],
  (⟨⟨(some 41), (some (40, false)), .mv (.t 2)⟩, 0, []⟩, []),
  (⟨⟨(some 42), (some (40, false)), .len true (.t 41)⟩, 0, []⟩, [41]),
  (⟨⟨(some 43), (some (40, false)), .mv (.t 0)⟩, 0, []⟩, []),
  (⟨⟨(some 44), (some (40, false)), .nilCheck (.t 43)⟩, 0, []⟩, [43]),
  (⟨⟨(some 45), (some (40, false)), .fieldAddr 0 (.t 44)⟩, 0, []⟩, [44]),
  (⟨⟨(some 46), (some (40, false)), .load none (.t 45)⟩, 0, []⟩, [45]),
  (⟨⟨(some 47), (some (40, false)), .len true (.t 46)⟩, 0, []⟩, [46]),
  (⟨⟨(some 48), (some (40, false)), .mv (.t 1)⟩, 0, []⟩, []),
  (⟨⟨(some 49), (some (40, false)), .bin false .sub (.t 47) (.t 48)⟩, 0, []⟩, [47, 48]),
  (⟨⟨(some 50), (some (40, false)), .bin false .gtr (.t 42) (.t 49)⟩, 0, []⟩, [42, 49]),
  o1 51 (.pick (.t 40) (.k (.bool true)) (.t 50)) [40, 50],
  o1 28 (.mv (.t 51)) [51]]
@[reducible] def fFlProg_r8 : List (DOper × List Nat) := [
  o1 6 (.mv (.k (.int .i64 3))) []]
@[reducible] def fFlProg_k0 : KCode := (.keep [] (.seq (.reg fFlProg_r8) .ret))
@[reducible] def fFlProg_k1 : KCode := (.keep [] (.seq (.reg fFlProg_r6) .ret))
@[reducible] def fFlProg_k2 : KCode := (.kill [18] (.seq (.reg fFlProg_r7) (.cond (.t 28) fFlProg_k0 (.kill [28] .skip))))
@[reducible] def fFlProg_k3 : KCode := (.keep [] (.seq (.reg fFlProg_r4) .ret))
@[reducible] def fFlProg_k4 : KCode := (.kill [13] (.seq (.reg fFlProg_r5) (.cond (.t 18) fFlProg_k1 fFlProg_k2)))
@[reducible] def fFlProg_k5 : KCode := (.keep [] (.seq (.reg fFlProg_r2) .ret))
@[reducible] def fFlProg_k6 : KCode := (.kill [10] (.seq (.reg fFlProg_r3) (.cond (.t 13) fFlProg_k3 fFlProg_k4)))
@[reducible] def fFlProg_r9 : List (DOper × List Nat) := [
  o1 52 (.mv (.t 1)) [],
  o1 53 (.bin false .quo (.t 52) (.k (.int .i64 256))) [52],
  o1 7 (.mv (.t 53)) [53]]
@[reducible] def fFlProg_r10 : List (DOper × List Nat) := [
  o1 54 (.mv (.t 2)) [],
  o1 55 (.len true (.t 54)) [54],
  o1 56 (.bin false .gtr (.t 55) (.k (.int .i64 0))) [55],
  o1 57 (.mv (.t 56)) [56],
  (⟨⟨(some 58), (some (57, true)), .mv (.t 7)⟩, 0, []⟩, []),
  (⟨⟨(some 59), (some (57, true)), .bin false .mul (.t 58) (.k (.int .i64 256))⟩, 0, []⟩, [58]),
  (⟨⟨(some 60), (some (57, true)), .mv (.t 1)⟩, 0, []⟩, []),
  (⟨⟨(some 61), (some (57, true)), .mv (.t 2)⟩, 0, []⟩, []),
  (⟨⟨(some 62), (some (57, true)), .len true (.t 61)⟩, 0, []⟩, [61]),
  (⟨⟨(some 63), (some (57, true)), .bin false .add (.t 60) (.t 62)⟩, 0, []⟩, [60, 62]),
  (⟨⟨(some 64), (some (57, true)), .bin false .lss (.t 59) (.t 63)⟩, 0, []⟩, [59, 63]),
  o1 65 (.pick (.t 57) (.t 64) (.k (.bool false))) [57, 64]]
@[reducible] def fFlProg_k7 : KCode := (.kill [7, 65] (.exit 1))
@[reducible] def fFlProg_r11 : List (DOper × List Nat) := [
  o1 68 (.mv (.t 0)) [],
  o1 69 (.mv (.t 7)) [],
  o1 70 (.call 52 [(.t 68), (.t 69)]) [68, 69]]
@[reducible] def fFlProg_r12 : List (DOper × List Nat) := [
  o1 6 (.mv (.k (.int .i64 4))) []]
@[reducible] def fFlProg_k8 : KCode := (.keep [] (.seq (.reg fFlProg_r12) .ret))
@[reducible] def fFlProg_r13 : List (DOper × List Nat) := [
  o1 66 (.mv (.t 7)) [7],
  o1 67 (.bin false .add (.t 66) (.k (.int .i64 1))) [66],
  o1 7 (.mv (.t 67)) [67]]
/-- live: [0, 1, 2, 7] -/
@[reducible] def fFlProg_l9 : KCode := (.seq (.seq (.reg fFlProg_r10) (.cond (.t 65) (.kill [65] .skip) fFlProg_k7)) (.keep [0, 1, 2, 7] (.seq (.block 2 (.seq (.reg fFlProg_r11) (.cond (.t 70) fFlProg_k8 (.kill [70] .skip)))) (.kill [6, 68, 69, 70] (.reg fFlProg_r13)))))
@[reducible] def fFlProg_r14 : List (DOper × List Nat) := [
  o1 8 (.mv (.k (.int .i64 0))) []]
@[reducible] def fFlProg_r15 : List (DOper × List Nat) := [
  o1 71 (.mv (.t 8)) [],
  o1 72 (.mv (.t 2)) [],
  o1 73 (.len true (.t 72)) [72],
  o1 74 (.bin false .lss (.t 71) (.t 73)) [71, 73]]
@[reducible] def fFlProg_r16 : List (DOper × List Nat) := [
  o1 77 (.mv (.t 0)) [],
  o1 78 (.mv (.t 1)) [],
  o1 79 (.mv (.t 8)) [],
  o1 80 (.bin false .add (.t 78) (.t 79)) [78, 79],
  o1 81 (.mv (.t 2)) [],
  o1 82 (.mv (.t 8)) [],
  o1 83 (.slS 1 (.t 81) (some (.t 82)) none none) [81, 82],
  o1 84 (.call 54 [(.t 83)]) [83],
  o1 85 (.call 53 [(.t 77), (.t 80), (.t 84)]) [77, 80, 84],
  o1 9 (.mv (.t 85)) [85]]
@[reducible] def fFlProg_r17 : List (DOper × List Nat) := [
  o1 86 (.mv (.t 9)) [],
  o1 87 (.bin false .neq (.t 86) (.k (.int .i64 0))) [86]]
@[reducible] def fFlProg_r18 : List (DOper × List Nat) := [
  o1 88 (.mv (.t 9)) [9],
  o1 6 (.mv (.t 88)) [88]]
@[reducible] def fFlProg_k10 : KCode := (.keep [9] (.seq (.reg fFlProg_r18) .ret))
@[reducible] def fFlProg_r19 : List (DOper × List Nat) := [
  o1 75 (.mv (.t 8)) [8],
  o1 76 (.bin false .add (.t 75) (.k (.int .i64 4))) [75],
  o1 8 (.mv (.t 76)) [76]]
/-- live: [0, 1, 2, 8] -/
@[reducible] def fFlProg_l11 : KCode := (.seq (.seq (.reg fFlProg_r15) (.cond (.t 74) (.kill [74] .skip) (.keep [] (.exit 3)))) (.kill [71, 72, 73, 74] (.seq (.block 4 (.seq (.reg fFlProg_r16) (.seq (.reg fFlProg_r17) (.cond (.t 87) fFlProg_k10 (.kill [9, 87] .skip))))) (.keep [0, 1, 2, 8] (.reg fFlProg_r19)))))
@[reducible] def fFlProg_r20 : List (DOper × List Nat) := [
  o1 6 (.mv (.k (.int .i64 0))) []]
/-- (*bosun/flash.Flash).Program -/
@[reducible] def fFlProg : KCode := (.seq (.reg fFlProg_r0) (.seq (.block 0 (.seq (.reg fFlProg_r1) (.cond (.t 10) fFlProg_k5 fFlProg_k6))) (.keep [0, 1, 2] (.seq (.seq (.reg fFlProg_r9) (.block 1 (.loop fFlProg_l9))) (.keep [0, 1, 2] (.seq (.seq (.reg fFlProg_r14) (.block 3 (.loop fFlProg_l11))) (.keep [] (.seq (.reg fFlProg_r20) .ret))))))))
@[reducible] def fFlProg_rs : List IRes := [.tmp 6]
theorem fFlProg_low : lowFunc Try.prog 15 [] [] = some ⟨fFlProg.bare, fFlProg_rs, 89⟩ := by kernel_rfl

@[reducible] def fFlOff_r0 : List (DOper × List Nat) := [
  o1 2 (.mv (.k (.bool false))) [2]]
@[reducible] def fFlOff_r1 : List (DOper × List Nat) := [
  o1 3 (.mv (.t 0)) [],
  o1 4 (.isNil false 0 (.t 3)) [3],
  o1 5 (.mv (.t 4)) [4],
  (⟨⟨(some 6), (some (5, false)), .mv (.t 0)⟩, 0, []⟩, [0]),
  (⟨⟨(some 7), (some (5, false)), .nilCheck (.t 6)⟩, 0, []⟩, [6]),
  (⟨⟨(some 8), (some (5, false)), .fieldAddr 7 (.t 7)⟩, 0, []⟩, [7]),
  (⟨⟨(some 9), (some (5, false)), .load none (.t 8)⟩, 0, []⟩, [8]),
  o1 10 (.pick (.t 5) (.k (.bool true)) (.t 9)) [5, 9],
  o1 2 (.mv (.t 10)) [10]]
/-- (*bosun/flash.Flash).Off -/
@[reducible] def fFlOff : KCode := (.seq (.reg fFlOff_r0) (.seq (.reg fFlOff_r1) .ret))
@[reducible] def fFlOff_rs : List IRes := [.tmp 2]
theorem fFlOff_low : lowFunc Try.prog 16 [] [] = some ⟨fFlOff.bare, fFlOff_rs, 11⟩ := by kernel_rfl

@[reducible] def fFlPower_r0 : List (DOper × List Nat) := [
  o1 2 (.mv (.t 0)) [],
  o1 3 (.isNil true 0 (.t 2)) [2]]
@[reducible] def fFlPower_r1 : List (DOper × List Nat) := [
  o1 4 (.mv (.t 0)) [],
  o1 5 (.mv (.t 0)) [0],
  o1 6 (.nilCheck (.t 4)) [4],
  o1 7 (.fieldAddr 7 (.t 6)) [6],
  (⟨⟨none, none, .store 1 (.t 7) (.k (.bool false))⟩, 0, []⟩, [7]),
  o1 8 (.nilCheck (.t 5)) [5],
  o1 9 (.fieldAddr 4 (.t 8)) [8],
  (⟨⟨none, none, .store 1 (.t 9) (.k (.bool false))⟩, 0, []⟩, [9])]
@[reducible] def fFlPower_k0 : KCode := (.kill [3] (.reg fFlPower_r1))
/-- (*bosun/flash.Flash).Power -/
@[reducible] def fFlPower : KCode := (.seq (.reg fFlPower_r0) (.cond (.t 3) fFlPower_k0 (.keep [] .skip)))
@[reducible] def fFlPower_rs : List IRes := []
theorem fFlPower_low : lowFunc Try.prog 17 [] [] = some ⟨fFlPower.bare, fFlPower_rs, 10⟩ := by kernel_rfl

@[reducible] def fFlRead_r0 : List (DOper × List Nat) := [
  o1 6 (.mv (.k (.list 1 ⟨true, true, false⟩ []))) [6],
  o1 7 (.mv (.k (.int .i64 0))) [7]]
@[reducible] def fFlRead_r1 : List (DOper × List Nat) := [
  o1 9 (.mv (.t 0)) [],
  o1 10 (.isNil false 0 (.t 9)) [9],
  o1 8 (.mv (.t 10)) [10]]
@[reducible] def fFlRead_r2 : List (DOper × List Nat) := [
  o1 6 (.mv (.k (.list 1 ⟨true, true, false⟩ []))) [],
  o1 7 (.mv (.k (.int .i64 1))) []]
@[reducible] def fFlRead_r3 : List (DOper × List Nat) := [
  o1 12 (.mv (.t 0)) [],
  o1 13 (.nilCheck (.t 12)) [12],
  o1 14 (.fieldAddr 7 (.t 13)) [13],
  o1 15 (.load none (.t 14)) [14],
  o1 11 (.mv (.t 15)) [15]]
@[reducible] def fFlRead_r4 : List (DOper × List Nat) := [
  o1 6 (.mv (.k (.list 1 ⟨true, true, false⟩ []))) [],
  o1 7 (.mv (.k (.int .i64 5))) []]
@[reducible] def fFlRead_r5 : List (DOper × List Nat) := [
  o1 17 (.mv (.t 1)) [],
  o1 18 (.bin false .lss (.t 17) (.k (.int .i64 0))) [17],
  o1 19 (.mv (.t 18)) [18],
  (⟨⟨(some 20), (some (19, false)), .mv (.t 2)⟩, 0, []⟩, []),
  (⟨⟨(some 21), (some (19, false)), .bin false .lss (.t 20) (.k (.int .i64 0))⟩, 0, []⟩, [20]),
  o1 22 (.pick (.t 19) (.k (.bool true)) (.t 21)) [19, 21],
  o1 23 (.mv (.t 22)) [22],
  (⟨⟨(some 24), (some (23, false)), .mv (.t 1)⟩, 0, []⟩, []),
  (⟨⟨(some 25), (some (23, false)), .mv (.t 0)⟩, 0, []⟩, []),
  (⟨⟨(some 26), (some (23, false)), .nilCheck (.t 25)⟩, 0, []⟩, [25]),
  (⟨⟨(some 27), (some (23, false)), .fieldAddr 0 (.t 26)⟩, 0, []⟩, [26]),
  (⟨⟨(some 28), (some (23, false)), .load none (.t 27)⟩, 0, []⟩, [27]),
  (⟨⟨(some 29), (some (23, false)), .len true (.t 28)⟩, 0, []⟩, [28]),
  (⟨⟨(some 30), (some (23, false)), .bin false .gtr (.t 24) (.t 29)⟩, 0, []⟩, [24, 29]),
  o1 31 (.pick (.t 23) (.k (.bool true)) (.t 30)) [23, 30],
  o1 32 (.mv (.t 31)) [31],
  (⟨⟨(some 33), (some (32, false)), .mv (.t 2)⟩, 0, []⟩, []),
  (⟨⟨(some 34), (some (32, false)), .mv (.t 0)⟩, 0, []⟩, []),
  (⟨⟨(some 35), (some (32, false)), .nilCheck (.t 34)⟩, 0, []⟩, [34]),
  (⟨⟨(some 36), (some (32, false)), .fieldAddr 0 (.t 35)⟩, 0, []⟩, [35]),
  (⟨⟨(some 37), (some (32, false)), .load none (.t 36)⟩, 0, []⟩, [36]),
  (⟨⟨(some 38), (some (32, false)), .len true (.t 37)⟩, 0, []⟩, [37]),
  (⟨⟨(some 39), (some (32, false)), .mv (.t 1)⟩, 0, []⟩, []),
  (⟨⟨(some 40), (some (32, false)), .bin false .sub (.t 38) (.t 39)⟩, 0, []⟩, [38, 39]),
  (⟨⟨(some 41), (some (32, false)), .bin false .gtr (.t 33) (.t 40)⟩, 0, []⟩, [33, 40]),
  o1 42 (.pick (.t 32) (.k (.bool true)) (.t 41)) [32, 41],
  o1 16 (.mv (.t 42)) [42]]
@[reducible] def fFlRead_r6 : List (DOper × List Nat) := [
  o1 6 (.mv (.k (.list 1 ⟨true, true, false⟩ []))) [],
  o1 7 (.mv (.k (.int .i64 3))) []]
@[reducible] def fFlRead_k0 : KCode := (.keep [] (.seq (.reg fFlRead_r6) .ret))
@[reducible] def fFlRead_k1 : KCode := (.keep [] (.seq (.reg fFlRead_r4) .ret))
@[reducible] def fFlRead_k2 : KCode := (.kill [11] (.seq (.reg fFlRead_r5) (.cond (.t 16) fFlRead_k0 (.kill [16] .skip))))
@[reducible] def fFlRead_k3 : KCode := (.keep [] (.seq (.reg fFlRead_r2) .ret))
@[reducible] def fFlRead_k4 : KCode := (.kill [8] (.seq (.reg fFlRead_r3) (.cond (.t 11) fFlRead_k1 fFlRead_k2)))
@[reducible] def fFlRead_r7 : List (DOper × List Nat) := [
  o1 43 (.mv (.t 0)) [0],
  o1 44 (.nilCheck (.t 43)) [43],
  o1 45 (.fieldAddr 0 (.t 44)) [44],
  o1 46 (.load none (.t 45)) [45],
  o1 47 (.mv (.t 1)) [],
  o1 48 (.mv (.t 1)) [1],
  o1 49 (.mv (.t 2)) [2],
  o1 50 (.bin false .add (.t 48) (.t 49)) [48, 49],
  o1 51 (.slS 1 (.t 46) (some (.t 47)) (some (.t 50)) none) [46, 47, 50],
  o1 52 (.call 55 [(.t 51)]) [51],
  o1 6 (.mv (.t 52)) [52],
  o1 7 (.mv (.k (.int .i64 0))) []]
/-- (*bosun/flash.Flash).Read -/
@[reducible] def fFlRead : KCode := (.seq (.reg fFlRead_r0) (.seq (.block 0 (.seq (.reg fFlRead_r1) (.cond (.t 8) fFlRead_k3 fFlRead_k4))) (.keep [0, 1, 2] (.seq (.reg fFlRead_r7) .ret))))
@[reducible] def fFlRead_rs : List IRes := [.tmp 6, .tmp 7]
theorem fFlRead_low : lowFunc Try.prog 18 [] [] = some ⟨fFlRead.bare, fFlRead_rs, 53⟩ := by kernel_rfl

@[reducible] def fFlErase_r0 : List (DOper × List Nat) := [
  o1 4 (.mv (.k (.int .i64 0))) [4]]
@[reducible] def fFlErase_r1 : List (DOper × List Nat) := [
  o1 9 (.mv (.t 0)) [],
  o1 10 (.isNil false 0 (.t 9)) [9],
  o1 8 (.mv (.t 10)) [10]]
@[reducible] def fFlErase_r2 : List (DOper × List Nat) := [
  o1 4 (.mv (.k (.int .i64 1))) []]
@[reducible] def fFlErase_r3 : List (DOper × List Nat) := [
  o1 12 (.mv (.t 0)) [],
  o1 13 (.nilCheck (.t 12)) [12],
  o1 14 (.fieldAddr 7 (.t 13)) [13],
  o1 15 (.load none (.t 14)) [14],
  o1 11 (.mv (.t 15)) [15]]
@[reducible] def fFlErase_r4 : List (DOper × List Nat) := [
  o1 4 (.mv (.k (.int .i64 5))) []]
@[reducible] def fFlErase_r5 : List (DOper × List Nat) := [
  o1 17 (.mv (.t 1)) [],
  o1 18 (.bin false .lss (.t 17) (.k (.int .i64 0))) [17],
  o1 19 (.mv (.t 18)) [18],
  (⟨⟨(some 20), (some (19, false)), .mv (.t 1)⟩, 0, []⟩, []),
  (⟨⟨(some 21), (some (19, false)), .mv (.t 0)⟩, 0, []⟩, []),
  (⟨⟨(some 22), (some (19, false)), .nilCheck (.t 21)⟩, 0, []⟩, [21]),
  (⟨⟨(some 23), (some (19, false)), .fieldAddr 8 (.t 22)⟩, 0, []⟩, [22]),
  (⟨⟨(some 24), (some (19, false)), .load none (.t 23)⟩, 0, []⟩, [23]),
  (⟨⟨(some 25), (some (19, false)), .len true (.t 24)⟩, 0, []⟩, [24]),
  (⟨⟨(some 26), (some (19, false)), .bin false .geq (.t 20) (.t 25)⟩, 0, []⟩, [20, 25]),
  o1 27 (.pick (.t 19) (.k (.bool true)) (.t 26)) [19, 26],
  o1 16 (.mv (.t 27)) [27]]
@[reducible] def fFlErase_r6 : List (DOper × List Nat) := [
  o1 4 (.mv (.k (.int .i64 3))) []]
@[reducible] def fFlErase_r7 : List (DOper × List Nat) := [
  o1 29 (.mv (.t 0)) [],
  o1 30 (.mv (.t 1)) [],
  o1 31 (.call 52 [(.t 29), (.t 30)]) [29, 30],
  o1 28 (.mv (.t 31)) [31]]
@[reducible] def fFlErase_r8 : List (DOper × List Nat) := [
  o1 4 (.mv (.k (.int .i64 4))) []]
@[reducible] def fFlErase_k0 : KCode := (.keep [] (.seq (.reg fFlErase_r8) .ret))
@[reducible] def fFlErase_k1 : KCode := (.keep [] (.seq (.reg fFlErase_r6) .ret))
@[reducible] def fFlErase_k2 : KCode := (.kill [16] (.seq (.reg fFlErase_r7) (.cond (.t 28) fFlErase_k0 (.kill [28] .skip))))
@[reducible] def fFlErase_k3 : KCode := (.keep [] (.seq (.reg fFlErase_r4) .ret))
@[reducible] def fFlErase_k4 : KCode := (.kill [11] (.seq (.reg fFlErase_r5) (.cond (.t 16) fFlErase_k1 fFlErase_k2)))
@[reducible] def fFlErase_k5 : KCode := (.keep [] (.seq (.reg fFlErase_r2) .ret))
@[reducible] def fFlErase_k6 : KCode := (.kill [8] (.seq (.reg fFlErase_r3) (.cond (.t 11) fFlErase_k3 fFlErase_k4)))
@[reducible] def fFlErase_r9 : List (DOper × List Nat) := [
  o1 32 (.mv (.t 0)) [],
  o1 33 (.nilCheck (.t 32)) [32],
  o1 34 (.fieldAddr 0 (.t 33)) [33],
  o1 35 (.load none (.t 34)) [34],
  o1 36 (.mv (.t 1)) [],
  o1 37 (.bin false .mul (.t 36) (.k (.int .i64 256))) [36],
  o1 38 (.mv (.t 1)) [],
  o1 39 (.bin false .add (.t 38) (.k (.int .i64 1))) [38],
  o1 40 (.bin false .mul (.t 39) (.k (.int .i64 256))) [39],
  o1 41 (.slS 1 (.t 35) (some (.t 37)) (some (.t 40)) none) [35, 37, 40],
  o1 5 (.mv (.t 41)) [41]]
@[reducible] def fFlErase_r10 : List (DOper × List Nat) := [
  o1 42 (.mv (.t 0)) [],
  o1 43 (.call 56 [(.t 42)]) [42],
  o1 6 (.mv (.t 43)) [43]]
@[reducible] def fFlErase_r11 : List (DOper × List Nat) := [
  o1 44 (.mv (.t 5)) [],
  o1 45 (.len true (.t 44)) [44],
  o1 46 (.mv (.k (.int .i64 0))) []]
@[reducible] def fFlErase_r12 : List (DOper × List Nat) := [
  o1 47 (.bin false .lss (.t 46) (.t 45)) []]
@[reducible] def fFlErase_k7 : KCode := (.keep [0, 1, 6] (.exit 1))
@[reducible] def fFlErase_r13 : List (DOper × List Nat) := [
  o1 48 (.mv (.t 46)) [],
  o1 7 (.mv (.t 48)) [48]]
@[reducible] def fFlErase_r14 : List (DOper × List Nat) := [
  o1 49 (.mv (.t 6)) [],
  o1 50 (.mv (.t 49)) [49],
  (⟨⟨(some 51), (some (50, false)), .mv (.t 0)⟩, 0, []⟩, []),
  (⟨⟨(some 52), (some (50, false)), .nilCheck (.t 51)⟩, 0, []⟩, [51]),
  (⟨⟨(some 53), (some (50, false)), .fieldAddr 6 (.t 52)⟩, 0, []⟩, [52]),
  (⟨⟨(some 54), (some (50, false)), .load none (.t 53)⟩, 0, []⟩, [53]),
  (⟨⟨(some 55), (some (50, false)), .mv (.t 7)⟩, 0, []⟩, []),
  (⟨⟨(some 56), (some (50, false)), .bin false .rem (.t 55) (.k (.int .i64 32))⟩, 0, []⟩, [55]),
  (⟨⟨(some 57), (some (50, false)), .bin false .shr (.t 54) (.t 56)⟩, 0, []⟩, [54, 56]),
  (⟨⟨(some 58), (some (50, false)), .bin false .and (.t 57) (.k (.int .u32 1))⟩, 0, []⟩, [57]),
  (⟨⟨(some 59), (some (50, false)), .bin false .eql (.t 58) (.k (.int .u32 1))⟩, 0, []⟩, [58]),
  o1 60 (.pick (.t 50) (.k (.bool true)) (.t 59)) [50, 59]]
@[reducible] def fFlErase_r15 : List (DOper × List Nat) := [
  o1 61 (.mv (.t 5)) [],
  o1 62 (.mv (.t 7)) [7],
  o1 63 (.idxS 1 (.t 61) (.t 62)) [61, 62],
  (⟨⟨none, none, .store 1 (.t 63) (.k (.int .u8 255))⟩, 0, []⟩, [63])]
@[reducible] def fFlErase_k8 : KCode := (.kill [60] (.reg fFlErase_r15))
@[reducible] def fFlErase_r16 : List (DOper × List Nat) := [
  o1 64 (.bin false .add (.t 46) (.k (.int .i64 1))) [46],
  o1 46 (.mv (.t 64)) [64]]
/-- live: [0, 1, 5, 6, 45, 46] -/
@[reducible] def fFlErase_l9 : KCode := (.seq (.reg fFlErase_r12) (.seq (.cond (.t 47) (.kill [47] .skip) fFlErase_k7) (.kill [47] (.seq (.block 2 (.seq (.reg fFlErase_r13) (.seq (.reg fFlErase_r14) (.cond (.t 60) fFlErase_k8 (.kill [7, 60] .skip))))) (.keep [0, 1, 5, 6, 45, 46] (.reg fFlErase_r16))))))
@[reducible] def fFlErase_r17 : List (DOper × List Nat) := [
  o1 65 (.mv (.t 6)) [6],
  o1 66 (.un .not (.t 65)) [65]]
@[reducible] def fFlErase_r18 : List (DOper × List Nat) := [
  o1 4 (.mv (.k (.int .i64 5))) []]
@[reducible] def fFlErase_k10 : KCode := (.keep [] (.seq (.reg fFlErase_r18) .ret))
@[reducible] def fFlErase_r19 : List (DOper × List Nat) := [
  o1 67 (.mv (.t 0)) [0],
  o1 68 (.nilCheck (.t 67)) [67],
  o1 69 (.fieldAddr 8 (.t 68)) [68],
  o1 70 (.load none (.t 69)) [69],
  o1 71 (.mv (.t 1)) [1],
  o1 72 (.idxS 1 (.t 70) (.t 71)) [],
  o1 73 (.load none (.t 72)) [72],
  o1 74 (.bin false .add (.t 73) (.k (.int .i64 1))) [73],
  o1 75 (.idxS 1 (.t 70) (.t 71)) [70, 71],
  (⟨⟨none, none, .store 1 (.t 75) (.t 74)⟩, 0, []⟩, [74, 75])]
@[reducible] def fFlErase_r20 : List (DOper × List Nat) := [
  o1 4 (.mv (.k (.int .i64 0))) []]
/-- (*bosun/flash.Flash).Erase -/
@[reducible] def fFlErase : KCode := (.seq (.reg fFlErase_r0) (.seq (.block 0 (.seq (.reg fFlErase_r1) (.cond (.t 8) fFlErase_k5 fFlErase_k6))) (.keep [0, 1] (.seq (.reg fFlErase_r9) (.seq (.reg fFlErase_r10) (.seq (.seq (.reg fFlErase_r11) (.block 1 (.loop fFlErase_l9))) (.keep [0, 1, 6] (.seq (.seq (.reg fFlErase_r17) (.cond (.t 66) fFlErase_k10 (.kill [66] .skip))) (.keep [0, 1] (.seq (.reg fFlErase_r19) (.seq (.reg fFlErase_r20) .ret)))))))))))
@[reducible] def fFlErase_rs : List IRes := [.tmp 4]
theorem fFlErase_low : lowFunc Try.prog 19 [] [] = some ⟨fFlErase.bare, fFlErase_rs, 76⟩ := by kernel_rfl

@[reducible] def fFlSize_r0 : List (DOper × List Nat) := [
  o1 2 (.mv (.k (.int .i64 0))) [2]]
@[reducible] def fFlSize_r1 : List (DOper × List Nat) := [
  o1 3 (.mv (.t 0)) [],
  o1 4 (.isNil false 0 (.t 3)) [3]]
@[reducible] def fFlSize_r2 : List (DOper × List Nat) := [
  o1 2 (.mv (.k (.int .i64 0))) []]
@[reducible] def fFlSize_k0 : KCode := (.keep [] (.seq (.reg fFlSize_r2) .ret))
@[reducible] def fFlSize_r3 : List (DOper × List Nat) := [
  o1 5 (.mv (.t 0)) [0],
  o1 6 (.nilCheck (.t 5)) [5],
  o1 7 (.fieldAddr 0 (.t 6)) [6],
  o1 8 (.load none (.t 7)) [7],
  o1 9 (.len true (.t 8)) [8],
  o1 2 (.mv (.t 9)) [9]]
/-- (*bosun/flash.Flash).Size -/
@[reducible] def fFlSize : KCode := (.seq (.reg fFlSize_r0) (.seq (.seq (.reg fFlSize_r1) (.cond (.t 4) fFlSize_k0 (.kill [4] .skip))) (.keep [0] (.seq (.reg fFlSize_r3) .ret))))
@[reducible] def fFlSize_rs : List IRes := [.tmp 2]
theorem fFlSize_low : lowFunc Try.prog 21 [] [] = some ⟨fFlSize.bare, fFlSize_rs, 10⟩ := by kernel_rfl

@[reducible] def fFlWord_r0 : List (DOper × List Nat) := [
  o1 6 (.mv (.k (.int .i64 0))) [6]]
@[reducible] def fFlWord_r1 : List (DOper × List Nat) := [
  o1 8 (.mv (.t 0)) [],
  o1 9 (.nilCheck (.t 8)) [8],
  o1 10 (.fieldAddr 0 (.t 9)) [9],
  o1 11 (.load none (.t 10)) [10],
  o1 12 (.mv (.t 1)) [],
  o1 13 (.slS 1 (.t 11) (some (.t 12)) none none) [11, 12],
  o1 14 (.call 54 [(.t 13)]) [13],
  o1 7 (.mv (.t 14)) [14]]
@[reducible] def fFlWord_r2 : List (DOper × List Nat) := [
  o1 15 (.mv (.t 0)) [],
  o1 16 (.call 56 [(.t 15)]) [15],
  o1 17 (.un .not (.t 16)) [16]]
@[reducible] def fFlWord_r3 : List (DOper × List Nat) := [
  o1 18 (.mv (.t 0)) [],
  o2 19 1 (.nilCheck (.t 18)) [18],
  o2 20 2 (.fieldAddr 0 (.t 19)) [19],
  o2 21 3 (.load none (.t 20)) [20],
  o2 22 4 (.mv (.t 1)) [1],
  o2 23 5 (.slS 1 (.t 21) (some (.t 22)) none none) [21, 22],
  o2 24 6 (.mv (.t 7)) [7],
  o2 25 7 (.mv (.t 2)) [2],
  o2 26 8 (.un .xor (.t 25)) [25],
  o2 27 9 (.mv (.t 0)) [0],
  o2 28 10 (.nilCheck (.t 27)) [27],
  o2 29 11 (.fieldAddr 6 (.t 28)) [28],
  o2 30 12 (.load none (.t 29)) [29],
  o2 31 13 (.bin false .and (.t 26) (.t 30)) [26, 30],
  o2 32 14 (.bin false .andNot (.t 24) (.t 31)) [24, 31],
  o2 33 15 (.call 75 [(.t 23), (.t 32)]) [23, 32, 33]]
@[reducible] def fFlWord_r4 : List (DOper × List Nat) := [
  o1 6 (.mv (.k (.int .i64 5))) []]
@[reducible] def fFlWord_k0 : KCode := (.kill [17] (.seq (.draw fFlWord_r3) (.seq (.reg fFlWord_r4) .ret)))
@[reducible] def fFlWord_r5 : List (DOper × List Nat) := [
  o1 34 (.mv (.t 0)) [0],
  o1 35 (.nilCheck (.t 34)) [34],
  o1 36 (.fieldAddr 0 (.t 35)) [35],
  o1 37 (.load none (.t 36)) [36],
  o1 38 (.mv (.t 1)) [1],
  o1 39 (.slS 1 (.t 37) (some (.t 38)) none none) [37, 38],
  o1 40 (.mv (.t 7)) [],
  o1 41 (.mv (.t 2)) [],
  o1 42 (.bin false .and (.t 40) (.t 41)) [40, 41],
  o1 43 (.call 75 [(.t 39), (.t 42)]) [39, 42, 43]]
@[reducible] def fFlWord_r6 : List (DOper × List Nat) := [
  o1 44 (.mv (.t 7)) [7],
  o1 45 (.mv (.t 2)) [],
  o1 46 (.bin false .and (.t 44) (.t 45)) [44, 45],
  o1 47 (.mv (.t 2)) [2],
  o1 48 (.bin false .neq (.t 46) (.t 47)) [46, 47]]
@[reducible] def fFlWord_r7 : List (DOper × List Nat) := [
  o1 6 (.mv (.k (.int .i64 6))) []]
@[reducible] def fFlWord_k1 : KCode := (.keep [] (.seq (.reg fFlWord_r7) .ret))
@[reducible] def fFlWord_r8 : List (DOper × List Nat) := [
  o1 6 (.mv (.k (.int .i64 0))) []]
/-- (*bosun/flash.Flash).word -/
@[reducible] def fFlWord : KCode := (.seq (.reg fFlWord_r0) (.seq (.reg fFlWord_r1) (.seq (.seq (.reg fFlWord_r2) (.cond (.t 17) fFlWord_k0 (.kill [17] .skip))) (.keep [0, 1, 2, 7] (.seq (.reg fFlWord_r5) (.seq (.seq (.reg fFlWord_r6) (.cond (.t 48) fFlWord_k1 (.keep [] .skip))) (.keep [] (.seq (.reg fFlWord_r8) .ret))))))))
@[reducible] def fFlWord_rs : List IRes := [.tmp 6]
theorem fFlWord_low : lowFunc Try.prog 53 [] [] = some ⟨fFlWord.bare, fFlWord_rs, 49⟩ := by kernel_rfl

end Go.Proofs.Ytjehncilahjmdaa
