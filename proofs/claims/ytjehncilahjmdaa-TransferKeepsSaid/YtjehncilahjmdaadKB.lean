/-
  Codes of functions.
-/
import Derived.Test.YtjehncilahjmdaadF5
import Derived.Test.YtjehncilahjmdaaRows
set_option linter.unusedSimpArgs false
set_option linter.unnecessarySimpa false
set_option linter.unusedVariables false
set_option linter.unusedSectionVars false
namespace Go.Proofs.Ytjehncilahjmdaa
open Go.Fw
@[reducible] def fBkRight_r0 : List (DOper × List Nat) := [
  o1 1 (.box 63 (.t 0)) [0],
  o1 2 (.mv (.k (.bool false))) [2]]
@[reducible] def fBkRight_r1 : List (DOper × List Nat) := [
  o1 3 (.fieldAddr 0 (.t 1)) [],
  o2 4 1 (.load none (.t 3)) [3],
  o2 5 2 (.isNil true 0 (.t 4)) [4],
  o2 6 3 (.mv (.t 5)) [5],
  (⟨⟨(some 7), (some (6, true)), .fieldAddr 1 (.t 1)⟩, 4, []⟩, []),
  (⟨⟨(some 8), (some (6, true)), .load none (.t 7)⟩, 5, []⟩, [7]),
  (⟨⟨(some 9), (some (6, true)), .bin false .geq (.t 8) (.k (.int .i64 0))⟩, 6, []⟩, [8]),
  o2 10 7 (.pick (.t 6) (.t 9) (.k (.bool false))) [6, 9],
  o2 11 8 (.mv (.t 10)) [10],
  (⟨⟨(some 12), (some (11, true)), .fieldAddr 1 (.t 1)⟩, 9, []⟩, []),
  (⟨⟨(some 13), (some (11, true)), .load none (.t 12)⟩, 10, []⟩, [12]),
  (⟨⟨(some 14), (some (11, true)), .fieldAddr 0 (.t 1)⟩, 11, []⟩, [1]),
  (⟨⟨(some 15), (some (11, true)), .load none (.t 14)⟩, 12, []⟩, [14]),
  (⟨⟨(some 16), (some (11, true)), .call 21 [(.t 15)]⟩, 13, [10]⟩, [15]),
  (⟨⟨(some 17), (some (11, true)), .bin false .quo (.t 16) (.k (.int .i64 256))⟩, 14, []⟩, [16]),
  (⟨⟨(some 18), (some (11, true)), .bin false .sub (.t 17) (.k (.int .i64 16))⟩, 15, []⟩, [17]),
  (⟨⟨(some 19), (some (11, true)), .bin false .leq (.t 13) (.t 18)⟩, 16, []⟩, [13, 18]),
  o2 20 17 (.pick (.t 11) (.t 19) (.k (.bool false))) [11, 19],
  o2 2 18 (.mv (.t 20)) [20]]
/-- (bosun/bank.Bank).right -/
@[reducible] def fBkRight : KCode := (.seq (.reg fBkRight_r0) (.seq (.draw fBkRight_r1) .ret))
@[reducible] def fBkRight_rs : List IRes := [.tmp 2]
theorem fBkRight_low : lowFunc Try.prog 68 [] [] = some ⟨fBkRight.bare, fBkRight_rs, 21⟩ := by kernel_rfl

@[reducible] def fBkClear_r0 : List (DOper × List Nat) := [
  o1 3 (.box 63 (.t 0)) [0],
  o1 6 (.mv (.k (.int .i64 0))) [6]]
@[reducible] def fBkClear_r1 : List (DOper × List Nat) := [
  o1 9 (.load (some 2) (.t 3)) [],
  o1 10 (.call 68 [(.t 9)]) [9],
  o1 11 (.un .not (.t 10)) [10],
  o1 12 (.mv (.t 11)) [11],
  (⟨⟨(some 13), (some (12, false)), .mv (.t 1)⟩, 0, []⟩, []),
  (⟨⟨(some 14), (some (12, false)), .bin false .lss (.t 13) (.k (.int .i64 0))⟩, 0, []⟩, [13]),
  o1 15 (.pick (.t 12) (.k (.bool true)) (.t 14)) [12, 14],
  o1 16 (.mv (.t 15)) [15],
  (⟨⟨(some 17), (some (16, false)), .mv (.t 2)⟩, 0, []⟩, []),
  (⟨⟨(some 18), (some (16, false)), .mv (.t 1)⟩, 0, []⟩, []),
  (⟨⟨(some 19), (some (16, false)), .bin false .lss (.t 17) (.t 18)⟩, 0, []⟩, [17, 18]),
  o1 20 (.pick (.t 16) (.k (.bool true)) (.t 19)) [16, 19],
  o1 21 (.mv (.t 20)) [20],
  (⟨⟨(some 22), (some (21, false)), .mv (.t 2)⟩, 0, []⟩, []),
  (⟨⟨(some 23), (some (21, false)), .bin false .gtr (.t 22) (.k (.int .i64 16))⟩, 0, []⟩, [22]),
  o1 24 (.pick (.t 21) (.k (.bool true)) (.t 23)) [21, 23]]
@[reducible] def fBkClear_r2 : List (DOper × List Nat) := [
  o1 6 (.mv (.k (.int .i64 1))) []]
@[reducible] def fBkClear_k0 : KCode := (.keep [] (.seq (.reg fBkClear_r2) .ret))
@[reducible] def fBkClear_r3 : List (DOper × List Nat) := [
  o1 25 (.mv (.t 1)) [1],
  o1 7 (.mv (.t 25)) [25]]
@[reducible] def fBkClear_r4 : List (DOper × List Nat) := [
  o1 26 (.mv (.t 7)) [],
  o1 27 (.mv (.t 2)) [],
  o1 28 (.bin false .lss (.t 26) (.t 27)) [26, 27]]
@[reducible] def fBkClear_r5 : List (DOper × List Nat) := [
  o1 31 (.fieldAddr 0 (.t 3)) [],
  o1 32 (.load none (.t 31)) [31],
  o1 33 (.fieldAddr 1 (.t 3)) [],
  o1 34 (.load none (.t 33)) [33],
  o1 35 (.mv (.t 7)) [],
  o1 36 (.bin false .add (.t 34) (.t 35)) [34, 35],
  o1 37 (.call 19 [(.t 32), (.t 36)]) [32, 36],
  o1 8 (.mv (.t 37)) [37]]
@[reducible] def fBkClear_r6 : List (DOper × List Nat) := [
  o1 38 (.mv (.t 8)) [],
  o1 39 (.bin false .neq (.t 38) (.k (.int .i64 0))) [38]]
@[reducible] def fBkClear_r7 : List (DOper × List Nat) := [
  o1 40 (.mv (.t 8)) [8],
  o1 6 (.mv (.t 40)) [40]]
@[reducible] def fBkClear_k1 : KCode := (.keep [8] (.seq (.reg fBkClear_r7) .ret))
@[reducible] def fBkClear_r8 : List (DOper × List Nat) := [
  o1 29 (.mv (.t 7)) [7],
  o1 30 (.bin false .add (.t 29) (.k (.int .i64 1))) [29],
  o1 7 (.mv (.t 30)) [30]]
/-- live: [2, 3, 7] -/
@[reducible] def fBkClear_l2 : KCode := (.seq (.seq (.reg fBkClear_r4) (.cond (.t 28) (.kill [28] .skip) (.keep [] (.exit 0)))) (.kill [26, 27, 28] (.seq (.block 1 (.seq (.reg fBkClear_r5) (.seq (.reg fBkClear_r6) (.cond (.t 39) fBkClear_k1 (.kill [8, 39] .skip))))) (.keep [2, 3, 7] (.reg fBkClear_r8)))))
@[reducible] def fBkClear_r9 : List (DOper × List Nat) := [
  o1 6 (.mv (.k (.int .i64 0))) []]
/-- (bosun/bank.Bank).Clear -/
@[reducible] def fBkClear : KCode := (.seq (.reg fBkClear_r0) (.seq (.seq (.reg fBkClear_r1) (.cond (.t 24) fBkClear_k0 (.kill [24] .skip))) (.keep [1, 2, 3] (.seq (.seq (.reg fBkClear_r3) (.block 0 (.loop fBkClear_l2))) (.keep [] (.seq (.reg fBkClear_r9) .ret))))))
@[reducible] def fBkClear_rs : List IRes := [.tmp 6]
theorem fBkClear_low : lowFunc Try.prog 36 [] [] = some ⟨fBkClear.bare, fBkClear_rs, 41⟩ := by kernel_rfl

@[reducible] def fBkWrite_r0 : List (DOper × List Nat) := [
  o1 3 (.box 63 (.t 0)) [0],
  o1 6 (.mv (.k (.int .i64 0))) [6]]
@[reducible] def fBkWrite_r1 : List (DOper × List Nat) := [
  o1 7 (.mv (.k (.list 1 ⟨true, true, false⟩ []))) []]
@[reducible] def fBkWrite_r2 : List (DOper × List Nat) := [
  o1 10 (.mv (.t 2)) [2],
  o1 11 (.len true (.t 10)) [],
  o1 12 (.mv (.k (.int .i64 0))) []]
@[reducible] def fBkWrite_r3 : List (DOper × List Nat) := [
  o1 13 (.bin false .lss (.t 12) (.t 11)) []]
@[reducible] def fBkWrite_k0 : KCode := (.keep [1, 3, 7] (.exit 0))
@[reducible] def fBkWrite_r4 : List (DOper × List Nat) := [
  o1 14 (.idxS 1 (.t 10) (.t 12)) [],
  o1 15 (.load none (.t 14)) [14],
  o1 9 (.mv (.t 15)) [15]]
@[reducible] def fBkWrite_r5 : List (DOper × List Nat) := [
  o1 16 (.mv (.t 7)) [7],
  o1 17 (.mv (.t 9)) [9],
  o1 18 (.appO 5 1 1 (.t 16) (.t 17)) [16, 17],
  o1 7 (.mv (.t 18)) [18]]
@[reducible] def fBkWrite_r6 : List (DOper × List Nat) := [
  o1 19 (.bin false .add (.t 12) (.k (.int .i64 1))) [12],
  o1 12 (.mv (.t 19)) [19]]
/-- live: [1, 3, 7, 10, 11, 12] -/
@[reducible] def fBkWrite_l1 : KCode := (.seq (.reg fBkWrite_r3) (.seq (.cond (.t 13) (.kill [13] .skip) fBkWrite_k0) (.kill [13] (.seq (.block 1 (.seq (.reg fBkWrite_r4) (.reg fBkWrite_r5))) (.kill [9, 14, 15, 16, 17, 18] (.reg fBkWrite_r6))))))
@[reducible] def fBkWrite_r7 : List (DOper × List Nat) := [
  o1 21 (.load (some 2) (.t 3)) [],
  o1 22 (.call 68 [(.t 21)]) [21],
  o1 23 (.un .not (.t 22)) [22],
  o1 20 (.mv (.t 23)) [23]]
@[reducible] def fBkWrite_r8 : List (DOper × List Nat) := [
  o1 6 (.mv (.k (.int .i64 1))) []]
@[reducible] def fBkWrite_r9 : List (DOper × List Nat) := [
  o1 25 (.mv (.t 1)) [],
  o1 26 (.bin false .lss (.t 25) (.k (.int .i64 0))) [25],
  o1 27 (.mv (.t 26)) [26],
  (⟨⟨(some 28), (some (27, false)), .mv (.t 1)⟩, 0, []⟩, []),
  (⟨⟨(some 29), (some (27, false)), .bin false .gtr (.t 28) (.k (.int .i64 4096))⟩, 0, []⟩, [28]),
  o1 30 (.pick (.t 27) (.k (.bool true)) (.t 29)) [27, 29],
  o1 31 (.mv (.t 30)) [30],
  (⟨⟨(some 32), (some (31, false)), .mv (.t 7)⟩, 0, []⟩, []),
  (⟨⟨(some 33), (some (31, false)), .len true (.t 32)⟩, 0, []⟩, [32]),
  (⟨⟨(some 34), (some (31, false)), .mv (.t 1)⟩, 0, []⟩, []),
  (⟨⟨(some 35), (some (31, false)), .bin false .sub (.k (.int .i64 4096)) (.t 34)⟩, 0, []⟩, [34]),
  (⟨⟨(some 36), (some (31, false)), .bin false .gtr (.t 33) (.t 35)⟩, 0, []⟩, [33, 35]),
  o1 37 (.pick (.t 31) (.k (.bool true)) (.t 36)) [31, 36],
  o1 24 (.mv (.t 37)) [37]]
@[reducible] def fBkWrite_r10 : List (DOper × List Nat) := [
  o1 6 (.mv (.k (.int .i64 3))) []]
@[reducible] def fBkWrite_k2 : KCode := (.keep [] (.seq (.reg fBkWrite_r10) .ret))
@[reducible] def fBkWrite_k3 : KCode := (.keep [] (.seq (.reg fBkWrite_r8) .ret))
@[reducible] def fBkWrite_k4 : KCode := (.kill [20] (.seq (.reg fBkWrite_r9) (.cond (.t 24) fBkWrite_k2 (.kill [24] .skip))))
@[reducible] def fBkWrite_r11 : List (DOper × List Nat) := [
  o1 38 (.mv (.t 7)) [],
  o1 39 (.len true (.t 38)) [38],
  o1 40 (.bin false .rem (.t 39) (.k (.int .i64 4))) [39],
  o1 41 (.bin false .neq (.t 40) (.k (.int .i64 0))) [40]]
@[reducible] def fBkWrite_r12 : List (DOper × List Nat) := [
  o1 42 (.mv (.t 7)) [7],
  o1 43 (.buildF 5 1 [(.int .u8 0)] [(0, 1, (.k (.int .u8 255)))]) [],
  o1 44 (.appO 5 1 1 (.t 42) (.t 43)) [42, 43],
  o1 7 (.mv (.t 44)) [44]]
/-- live: [1, 3, 7] -/
@[reducible] def fBkWrite_l5 : KCode := (.seq (.seq (.reg fBkWrite_r11) (.cond (.t 41) (.kill [41] .skip) (.kill [41] (.exit 3)))) (.keep [1, 3, 7] (.block 4 (.reg fBkWrite_r12))))
@[reducible] def fBkWrite_r13 : List (DOper × List Nat) := [
  o1 45 (.fieldAddr 0 (.t 3)) [],
  o1 46 (.load none (.t 45)) [45],
  o1 47 (.fieldAddr 1 (.t 3)) [3],
  o1 48 (.load none (.t 47)) [47],
  o1 49 (.bin false .mul (.t 48) (.k (.int .i64 256))) [48],
  o1 50 (.mv (.t 1)) [1],
  o1 51 (.bin false .add (.t 49) (.t 50)) [49, 50],
  o1 52 (.mv (.t 7)) [7],
  o1 53 (.call 15 [(.t 46), (.t 51), (.t 52)]) [46, 51, 52],
  o1 6 (.mv (.t 53)) [53]]
/-- (bosun/bank.Bank).Write -/
@[reducible] def fBkWrite : KCode := (.seq (.reg fBkWrite_r0) (.seq (.reg fBkWrite_r1) (.seq (.seq (.reg fBkWrite_r2) (.block 0 (.loop fBkWrite_l1))) (.keep [1, 3, 7] (.seq (.block 2 (.seq (.reg fBkWrite_r7) (.cond (.t 20) fBkWrite_k3 fBkWrite_k4))) (.keep [1, 3, 7] (.seq (.block 3 (.loop fBkWrite_l5)) (.cut (.keep [1, 3, 7] (.seq (.reg fBkWrite_r13) .ret))))))))))
@[reducible] def fBkWrite_rs : List IRes := [.tmp 6]
theorem fBkWrite_low : lowFunc Try.prog 37 [] [] = some ⟨fBkWrite.bare, fBkWrite_rs, 54⟩ := by kernel_rfl

@[reducible] def fBkBytes_r0 : List (DOper × List Nat) := [
  o1 3 (.box 63 (.t 0)) [0],
  o1 6 (.mv (.k (.list 1 ⟨true, true, false⟩ []))) [6],
  o1 7 (.mv (.k (.int .i64 0))) [7]]
@[reducible] def fBkBytes_r1 : List (DOper × List Nat) := [
  o1 9 (.load (some 2) (.t 3)) [],
  o1 10 (.call 68 [(.t 9)]) [9],
  o1 11 (.un .not (.t 10)) [10],
  o1 8 (.mv (.t 11)) [11]]
@[reducible] def fBkBytes_r2 : List (DOper × List Nat) := [
  o1 6 (.mv (.k (.list 1 ⟨true, true, false⟩ []))) [],
  o1 7 (.mv (.k (.int .i64 1))) []]
@[reducible] def fBkBytes_r3 : List (DOper × List Nat) := [
  o1 13 (.mv (.t 1)) [],
  o1 14 (.bin false .lss (.t 13) (.k (.int .i64 0))) [13],
  o1 15 (.mv (.t 14)) [14],
  (⟨⟨(some 16), (some (15, false)), .mv (.t 2)⟩, 0, []⟩, []),
  (⟨⟨(some 17), (some (15, false)), .bin false .lss (.t 16) (.k (.int .i64 0))⟩, 0, []⟩, [16]),
  o1 18 (.pick (.t 15) (.k (.bool true)) (.t 17)) [15, 17],
  o1 19 (.mv (.t 18)) [18],
  (⟨⟨(some 20), (some (19, false)), .mv (.t 1)⟩, 0, []⟩, []),
  (⟨⟨(some 21), (some (19, false)), .bin false .gtr (.t 20) (.k (.int .i64 4096))⟩, 0, []⟩, [20]),
  o1 22 (.pick (.t 19) (.k (.bool true)) (.t 21)) [19, 21],
  o1 23 (.mv (.t 22)) [22],
  (⟨⟨(some 24), (some (23, false)), .mv (.t 2)⟩, 0, []⟩, []),
  (⟨⟨(some 25), (some (23, false)), .mv (.t 1)⟩, 0, []⟩, []),
  (⟨⟨(some 26), (some (23, false)), .bin false .sub (.k (.int .i64 4096)) (.t 25)⟩, 0, []⟩, [25]),
  (⟨⟨(some 27), (some (23, false)), .bin false .gtr (.t 24) (.t 26)⟩, 0, []⟩, [24, 26]),
  o1 28 (.pick (.t 23) (.k (.bool true)) (.t 27)) [23, 27],
  o1 12 (.mv (.t 28)) [28]]
@[reducible] def fBkBytes_r4 : List (DOper × List Nat) := [
  o1 6 (.mv (.k (.list 1 ⟨true, true, false⟩ []))) [],
  o1 7 (.mv (.k (.int .i64 3))) []]
@[reducible] def fBkBytes_k0 : KCode := (.keep [] (.seq (.reg fBkBytes_r4) .ret))
@[reducible] def fBkBytes_k1 : KCode := (.keep [] (.seq (.reg fBkBytes_r2) .ret))
@[reducible] def fBkBytes_k2 : KCode := (.kill [8] (.seq (.reg fBkBytes_r3) (.cond (.t 12) fBkBytes_k0 (.kill [12] .skip))))
@[reducible] def fBkBytes_r5 : List (DOper × List Nat) := [
  o1 29 (.fieldAddr 0 (.t 3)) [],
  o1 30 (.load none (.t 29)) [29],
  o1 31 (.fieldAddr 1 (.t 3)) [3],
  o1 32 (.load none (.t 31)) [31],
  o1 33 (.bin false .mul (.t 32) (.k (.int .i64 256))) [32],
  o1 34 (.mv (.t 1)) [1],
  o1 35 (.bin false .add (.t 33) (.t 34)) [33, 34],
  o1 36 (.mv (.t 2)) [2],
  o1 37 (.call 18 [(.t 30), (.t 35), (.t 36)]) [30, 35, 36],
  o1 38 (.extract 0 (.t 37)) [],
  o1 39 (.extract 1 (.t 37)) [37],
  o1 6 (.mv (.t 38)) [38],
  o1 7 (.mv (.t 39)) [39]]
/-- (bosun/bank.Bank).Bytes -/
@[reducible] def fBkBytes : KCode := (.seq (.reg fBkBytes_r0) (.seq (.block 0 (.seq (.reg fBkBytes_r1) (.cond (.t 8) fBkBytes_k1 fBkBytes_k2))) (.keep [1, 2, 3] (.seq (.reg fBkBytes_r5) .ret))))
@[reducible] def fBkBytes_rs : List IRes := [.tmp 6, .tmp 7]
theorem fBkBytes_low : lowFunc Try.prog 33 [] [] = some ⟨fBkBytes.bare, fBkBytes_rs, 40⟩ := by kernel_rfl

end Go.Proofs.Ytjehncilahjmdaa
