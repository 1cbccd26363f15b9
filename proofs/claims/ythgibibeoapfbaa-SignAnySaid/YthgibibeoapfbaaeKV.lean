/-
  Codes of functions.
-/
import Derived.Test.YthgibibeoapfbaaeQ9
import Derived.Test.YthgibibeoapfbaaRows
set_option linter.unusedSimpArgs false
set_option linter.unnecessarySimpa false
set_option linter.unusedVariables false
set_option linter.unusedSectionVars false
namespace Go.Proofs.Ythgibibeoapfbaa
open Go.Fw
@[reducible] def fBit_r0 : List (DOper × List Nat) := [
  o1 2 (.box 62 (.t 0)) [0],
  o1 4 (.mv (.k (.bool false))) [4]]
@[reducible] def fBit_r1 : List (DOper × List Nat) := [
  o1 5 (.mv (.t 1)) [],
  o1 6 (.bin false .geq (.t 5) (.k (.int .i64 0))) [5],
  o1 7 (.mv (.t 6)) [6],
  (⟨⟨(some 8), (some (7, true)), .mv (.t 1)⟩, 0, []⟩, []),
  (⟨⟨(some 9), (some (7, true)), .bin false .lss (.t 8) (.k (.int .i64 256))⟩, 0, []⟩, [8]),
  o1 10 (.pick (.t 7) (.t 9) (.k (.bool false))) [7, 9],
  o1 11 (.mv (.t 10)) [10],
  (⟨⟨(some 12), (some (11, true)), .mv (.t 1)⟩, 0, []⟩, []),
  (⟨⟨(some 13), (some (11, true)), .bin false .quo (.t 12) (.k (.int .i64 64))⟩, 0, []⟩, [12]),
  (⟨⟨(some 14), (some (11, true)), .idxA 4 1 (.t 2) (.t 13)⟩, 0, []⟩, [2, 13]),
  (⟨⟨(some 15), (some (11, true)), .load none (.t 14)⟩, 0, []⟩, [14]),
  (⟨⟨(some 16), (some (11, true)), .mv (.t 1)⟩, 0, []⟩, [1]),
  (⟨⟨(some 17), (some (11, true)), .bin false .rem (.t 16) (.k (.int .i64 64))⟩, 0, []⟩, [16]),
  (⟨⟨(some 18), (some (11, true)), .bin false .shr (.t 15) (.t 17)⟩, 0, []⟩, [15, 17]),
  (⟨⟨(some 19), (some (11, true)), .bin false .and (.t 18) (.k (.int .u64 1))⟩, 0, []⟩, [18]),
  (⟨⟨(some 20), (some (11, true)), .bin false .eql (.t 19) (.k (.int .u64 1))⟩, 0, []⟩, [19]),
  o1 21 (.pick (.t 11) (.t 20) (.k (.bool false))) [11, 20],
  o1 4 (.mv (.t 21)) [21]]
/-- (bosun/scalar.Num).Bit -/
@[reducible] def fBit : KCode := (.seq (.reg fBit_r0) (.seq (.reg fBit_r1) .ret))
@[reducible] def fBit_rs : List IRes := [.tmp 4]
theorem fBit_low : lowFunc Try.prog 86 [] [] = some ⟨fBit.bare, fBit_rs, 22⟩ := by kernel_rfl

@[reducible] def fCvD_r0 : List (DOper × List Nat) := [
  o1 0 (.alloc 49 [(.int .u64 0), (.int .u64 0), (.int .u64 0), (.int .u64 0)]) []]
@[reducible] def fCvD_r1 : List (DOper × List Nat) := [
  o1 1 (.build [(.int .u64 0), (.int .u64 0), (.int .u64 0), (.int .u64 0)] [(0, 1, (.k (.int .u64 8496970652267935907))), (1, 1, (.k (.int .u64 31536524315187371))), (2, 1, (.k (.int .u64 10144147576115030168))), (3, 1, (.k (.int .u64 5909686906226998899)))]) [],
  (⟨⟨none, none, .store 4 (.t 0) (.t 1)⟩, 0, []⟩, [1])]
/-- bosun/curve.d -/
@[reducible] def fCvD : KCode := (.seq (.reg fCvD_r0) (.seq (.reg fCvD_r1) .ret))
@[reducible] def fCvD_rs : List IRes := [.cell 0 (some 4)]
theorem fCvD_low : lowFunc Try.prog 66 [] [] = some ⟨fCvD.bare, fCvD_rs, 2⟩ := by kernel_rfl

@[reducible] def fCvAt_r0 : List (DOper × List Nat) := [
  o1 1 (.box 123 (.t 0)) [0],
  o1 2 (.alloc 51 [(.int .u64 0), (.int .u64 0), (.int .u64 0), (.int .u64 0), (.int .u64 0), (.int .u64 0), (.int .u64 0), (.int .u64 0), (.int .u64 0), (.int .u64 0), (.int .u64 0), (.int .u64 0), (.int .u64 0), (.int .u64 0), (.int .u64 0), (.int .u64 0)]) []]
@[reducible] def fCvAt_r1 : List (DOper × List Nat) := [
  o1 3 (.fieldAddr 0 (.t 1)) [],
  o2 4 1 (.load (some 4) (.t 3)) [3],
  o2 5 2 (.fieldAddr 4 (.t 1)) [],
  o2 6 3 (.load (some 4) (.t 5)) [5],
  o2 8 5 (.fieldAddr 0 (.t 1)) [],
  o2 9 6 (.load (some 4) (.t 8)) [8],
  o2 10 7 (.fieldAddr 4 (.t 1)) [1],
  o2 11 8 (.load (some 4) (.t 10)) [10],
  o2 12 9 (.buildF 49 4 [(.int .u64 0), (.int .u64 0), (.int .u64 0), (.int .u64 0), (.int .u64 0), (.int .u64 0), (.int .u64 0), (.int .u64 0)] [(0, 4, (.t 9)), (4, 4, (.t 11))]) [9, 11],
  (⟨⟨(some 7), none, .call 62 [(.k (.int .u64 1))]⟩, 4, [8, 6, 3, 1]⟩, []),
  (⟨⟨(some 13), none, .call 63 [(.t 12)]⟩, 10, [3, 1]⟩, [12]),
  o2 14 11 (.build [(.int .u64 0), (.int .u64 0), (.int .u64 0), (.int .u64 0), (.int .u64 0), (.int .u64 0), (.int .u64 0), (.int .u64 0), (.int .u64 0), (.int .u64 0), (.int .u64 0), (.int .u64 0), (.int .u64 0), (.int .u64 0), (.int .u64 0), (.int .u64 0)] [(0, 4, (.t 4)), (4, 4, (.t 6)), (8, 4, (.t 7)), (12, 4, (.t 13))]) [4, 6, 7, 13],
  (⟨⟨none, none, .store 16 (.t 2) (.t 14)⟩, 12, []⟩, [14])]
/-- bosun/curve.at -/
@[reducible] def fCvAt : KCode := (.seq (.reg fCvAt_r0) (.seq (.draw fCvAt_r1) .ret))
@[reducible] def fCvAt_rs : List IRes := [.cell 2 (some 16)]
theorem fCvAt_low : lowFunc Try.prog 70 [] [(1, [0, 1, 2, 3, 5, 6, 7, 8, 9, 4, 10, 11, 12])] = some ⟨fCvAt.bare, fCvAt_rs, 15⟩ := by kernel_rfl

@[reducible] def fCvNone_r0 : List (DOper × List Nat) := [
  o1 0 (.alloc 51 [(.int .u64 0), (.int .u64 0), (.int .u64 0), (.int .u64 0), (.int .u64 0), (.int .u64 0), (.int .u64 0), (.int .u64 0), (.int .u64 0), (.int .u64 0), (.int .u64 0), (.int .u64 0), (.int .u64 0), (.int .u64 0), (.int .u64 0), (.int .u64 0)]) []]
@[reducible] def fCvNone_r1 : List (DOper × List Nat) := [
  o1 1 (.call 62 [(.k (.int .u64 1))]) [],
  o1 2 (.build [(.int .u64 0), (.int .u64 0), (.int .u64 0), (.int .u64 0), (.int .u64 0), (.int .u64 0), (.int .u64 0), (.int .u64 0)] [(4, 4, (.t 1))]) [1],
  o1 3 (.call 70 [(.t 2)]) [2],
  (⟨⟨none, none, .store 16 (.t 0) (.t 3)⟩, 0, []⟩, [3])]
/-- bosun/curve.None -/
@[reducible] def fCvNone : KCode := (.seq (.reg fCvNone_r0) (.seq (.reg fCvNone_r1) .ret))
@[reducible] def fCvNone_rs : List IRes := [.cell 0 (some 16)]
theorem fCvNone_low : lowFunc Try.prog 38 [] [] = some ⟨fCvNone.bare, fCvNone_rs, 4⟩ := by kernel_rfl

@[reducible] def fCvBase_r0 : List (DOper × List Nat) := [
  o1 0 (.alloc 51 [(.int .u64 0), (.int .u64 0), (.int .u64 0), (.int .u64 0), (.int .u64 0), (.int .u64 0), (.int .u64 0), (.int .u64 0), (.int .u64 0), (.int .u64 0), (.int .u64 0), (.int .u64 0), (.int .u64 0), (.int .u64 0), (.int .u64 0), (.int .u64 0)]) []]
@[reducible] def fCvBase_r1 : List (DOper × List Nat) := [
  o1 1 (.alloc 23 [(.int .u8 0), (.int .u8 0), (.int .u8 0), (.int .u8 0), (.int .u8 0), (.int .u8 0), (.int .u8 0), (.int .u8 0), (.int .u8 0), (.int .u8 0), (.int .u8 0), (.int .u8 0), (.int .u8 0), (.int .u8 0), (.int .u8 0), (.int .u8 0), (.int .u8 0), (.int .u8 0), (.int .u8 0), (.int .u8 0), (.int .u8 0), (.int .u8 0), (.int .u8 0), (.int .u8 0), (.int .u8 0), (.int .u8 0), (.int .u8 0), (.int .u8 0), (.int .u8 0), (.int .u8 0), (.int .u8 0), (.int .u8 0)]) []]
@[reducible] def fCvBase_r2 : List (DOper × List Nat) := [
  o1 5 (.mv (.k (.int .i64 0))) []]
@[reducible] def fCvBase_r3 : List (DOper × List Nat) := [
  o1 6 (.bin false .lss (.t 5) (.k (.int .i64 32))) []]
@[reducible] def fCvBase_k0 : KCode := (.kill [5, 6] (.exit 0))
@[reducible] def fCvBase_r4 : List (DOper × List Nat) := [
  o1 7 (.mv (.t 5)) [],
  o1 2 (.mv (.t 7)) [7]]
@[reducible] def fCvBase_r5 : List (DOper × List Nat) := [
  o1 8 (.mv (.t 2)) [2],
  o1 9 (.idxA 32 1 (.t 1) (.t 8)) [8],
  (⟨⟨none, none, .store 1 (.t 9) (.k (.int .u8 102))⟩, 0, []⟩, [9])]
@[reducible] def fCvBase_r6 : List (DOper × List Nat) := [
  o1 10 (.bin false .add (.t 5) (.k (.int .i64 1))) [5],
  o1 5 (.mv (.t 10)) [10]]
/-- live: [0, 1, 5] -/
@[reducible] def fCvBase_l1 : KCode := (.seq (.reg fCvBase_r3) (.seq (.cond (.t 6) (.kill [6] .skip) fCvBase_k0) (.kill [6] (.seq (.block 1 (.seq (.reg fCvBase_r4) (.reg fCvBase_r5))) (.keep [0, 1, 5] (.reg fCvBase_r6))))))
@[reducible] def fCvBase_r7 : List (DOper × List Nat) := [
  o1 11 (.idxA 32 1 (.t 1) (.k (.int .i64 0))) [],
  (⟨⟨none, none, .store 1 (.t 11) (.k (.int .u8 88))⟩, 0, []⟩, [11])]
@[reducible] def fCvBase_r8 : List (DOper × List Nat) := [
  o1 13 (.load (some 32) (.t 1)) [1],
  o1 14 (.call 24 [(.t 13)]) [13],
  o1 12 (.mv (.t 14)) [14],
  o1 15 (.extract 0 (.t 12)) [],
  o1 16 (.extract 1 (.t 12)) [12],
  o1 3 (.alloc 51 [(.int .u64 0), (.int .u64 0), (.int .u64 0), (.int .u64 0), (.int .u64 0), (.int .u64 0), (.int .u64 0), (.int .u64 0), (.int .u64 0), (.int .u64 0), (.int .u64 0), (.int .u64 0), (.int .u64 0), (.int .u64 0), (.int .u64 0), (.int .u64 0)]) [],
  (⟨⟨none, none, .store 16 (.t 3) (.t 15)⟩, 0, []⟩, [15]),
  o1 4 (.mv (.t 16)) [4, 16]]
@[reducible] def fCvBase_r9 : List (DOper × List Nat) := [
  o1 17 (.load (some 16) (.t 3)) [3],
  (⟨⟨none, none, .store 16 (.t 0) (.t 17)⟩, 0, []⟩, [17])]
/-- bosun/curve.Base -/
@[reducible] def fCvBase : KCode := (.seq (.reg fCvBase_r0) (.seq (.reg fCvBase_r1) (.seq (.seq (.reg fCvBase_r2) (.block 0 (.loop fCvBase_l1))) (.keep [0, 1] (.seq (.reg fCvBase_r7) (.seq (.reg fCvBase_r8) (.seq (.reg fCvBase_r9) .ret)))))))
@[reducible] def fCvBase_rs : List IRes := [.cell 0 (some 16)]
theorem fCvBase_low : lowFunc Try.prog 41 [] [] = some ⟨fCvBase.bare, fCvBase_rs, 18⟩ := by kernel_rfl

@[reducible] def fCvDecode_r0 : List (DOper × List Nat) := [
  o1 1 (.box 23 (.t 0)) [0],
  o1 2 (.alloc 51 [(.int .u64 0), (.int .u64 0), (.int .u64 0), (.int .u64 0), (.int .u64 0), (.int .u64 0), (.int .u64 0), (.int .u64 0), (.int .u64 0), (.int .u64 0), (.int .u64 0), (.int .u64 0), (.int .u64 0), (.int .u64 0), (.int .u64 0), (.int .u64 0)]) [],
  o1 3 (.mv (.k (.int .i64 0))) [3]]
@[reducible] def fCvDecode_r1 : List (DOper × List Nat) := [
  o1 13 (.idxA 32 1 (.t 1) (.k (.int .i64 31))) [],
  o1 14 (.load none (.t 13)) [13],
  o1 15 (.bin false .shr (.t 14) (.k (.int .u64 7))) [14],
  o1 16 (.bin false .eql (.t 15) (.k (.int .u8 1))) [15],
  o1 4 (.mv (.t 16)) [16]]
@[reducible] def fCvDecode_r2 : List (DOper × List Nat) := [
  o1 17 (.idxA 32 1 (.t 1) (.k (.int .i64 31))) [],
  o1 18 (.load none (.t 17)) [17],
  o1 19 (.bin false .and (.t 18) (.k (.int .u8 127))) [18],
  o1 20 (.idxA 32 1 (.t 1) (.k (.int .i64 31))) [],
  (⟨⟨none, none, .store 1 (.t 20) (.t 19)⟩, 0, []⟩, [19, 20])]
@[reducible] def fCvDecode_r3 : List (DOper × List Nat) := [
  o1 22 (.load (some 32) (.t 1)) [1],
  o1 23 (.call 61 [(.t 22)]) [22],
  o1 21 (.mv (.t 23)) [23],
  o1 24 (.extract 0 (.t 21)) [],
  o1 25 (.extract 1 (.t 21)) [21],
  o1 5 (.alloc 49 [(.int .u64 0), (.int .u64 0), (.int .u64 0), (.int .u64 0)]) [],
  (⟨⟨none, none, .store 4 (.t 5) (.t 24)⟩, 0, []⟩, [24]),
  o1 6 (.mv (.t 25)) [25]]
@[reducible] def fCvDecode_r4 : List (DOper × List Nat) := [
  o1 26 (.mv (.t 6)) [6],
  o1 27 (.bin false .neq (.t 26) (.k (.int .i64 0))) [26]]
@[reducible] def fCvDecode_r5 : List (DOper × List Nat) := [
  o1 28 (.build [(.int .u64 0), (.int .u64 0), (.int .u64 0), (.int .u64 0), (.int .u64 0), (.int .u64 0), (.int .u64 0), (.int .u64 0), (.int .u64 0), (.int .u64 0), (.int .u64 0), (.int .u64 0), (.int .u64 0), (.int .u64 0), (.int .u64 0), (.int .u64 0)] []) [],
  (⟨⟨none, none, .store 16 (.t 2) (.t 28)⟩, 0, []⟩, [28]),
  o1 3 (.mv (.k (.int .i64 7))) []]
@[reducible] def fCvDecode_k0 : KCode := (.keep [2] (.seq (.reg fCvDecode_r5) .ret))
@[reducible] def fCvDecode_r6 : List (DOper × List Nat) := [
  o1 29 (.callP 62 [(.k (.int .u64 1))]) [],
  o2 30 1 (.load (some 4) (.t 5)) [],
  o2 31 2 (.load (some 4) (.t 5)) [],
  o2 32 3 (.buildF 49 4 [(.int .u64 0), (.int .u64 0), (.int .u64 0), (.int .u64 0), (.int .u64 0), (.int .u64 0), (.int .u64 0), (.int .u64 0)] [(0, 4, (.t 30)), (4, 4, (.t 31))]) [30, 31],
  o2 33 4 (.callP 63 [(.t 32)]) [32],
  (⟨⟨(some 7), none, .allocA 3 0 49 [(.int .u64 0), (.int .u64 0), (.int .u64 0), (.int .u64 0)]⟩, 5, [2, 1]⟩, []),
  (⟨⟨(some 8), none, .allocA 3 1 49 [(.int .u64 0), (.int .u64 0), (.int .u64 0), (.int .u64 0)]⟩, 6, [2, 1]⟩, []),
  (⟨⟨none, none, .store 4 (.t 7) (.t 29)⟩, 7, []⟩, [29]),
  (⟨⟨none, none, .store 4 (.t 8) (.t 33)⟩, 8, []⟩, [33])]
@[reducible] def fCvDecode_r7 : List (DOper × List Nat) := [
  o1 34 (.load (some 4) (.t 8)) [],
  o1 35 (.load (some 4) (.t 7)) [],
  o1 36 (.call 64 [(.t 34), (.t 35)]) [34, 35],
  o1 9 (.alloc 49 [(.int .u64 0), (.int .u64 0), (.int .u64 0), (.int .u64 0)]) [],
  (⟨⟨none, none, .store 4 (.t 9) (.t 36)⟩, 0, []⟩, [36])]
@[reducible] def fCvDecode_r8 : List (DOper × List Nat) := [
  o1 37 (.load (some 4) (.t 7)) [7],
  o2 38 1 (.callP 66 []) [],
  o2 39 2 (.load (some 4) (.t 8)) [8],
  o2 40 3 (.buildF 49 4 [(.int .u64 0), (.int .u64 0), (.int .u64 0), (.int .u64 0), (.int .u64 0), (.int .u64 0), (.int .u64 0), (.int .u64 0)] [(0, 4, (.t 38)), (4, 4, (.t 39))]) [38, 39],
  o2 41 4 (.callP 63 [(.t 40)]) [40],
  o2 42 5 (.buildF 49 4 [(.int .u64 0), (.int .u64 0), (.int .u64 0), (.int .u64 0), (.int .u64 0), (.int .u64 0), (.int .u64 0), (.int .u64 0)] [(0, 4, (.t 37)), (4, 4, (.t 41))]) [37, 41],
  o2 43 6 (.callP 65 [(.t 42)]) [42],
  (⟨⟨(some 10), none, .alloc 49 [(.int .u64 0), (.int .u64 0), (.int .u64 0), (.int .u64 0)]⟩, 7, [2, 0]⟩, []),
  (⟨⟨none, none, .store 4 (.t 10) (.t 43)⟩, 8, []⟩, [43])]
@[reducible] def fCvDecode_r9 : List (DOper × List Nat) := [
  o1 45 (.load (some 4) (.t 9)) [9],
  o2 46 1 (.load (some 4) (.t 10)) [10],
  o2 47 2 (.callP 67 [(.t 46)]) [46],
  o2 48 3 (.buildF 49 4 [(.int .u64 0), (.int .u64 0), (.int .u64 0), (.int .u64 0), (.int .u64 0), (.int .u64 0), (.int .u64 0), (.int .u64 0)] [(0, 4, (.t 45)), (4, 4, (.t 47))]) [45, 47],
  o2 49 4 (.callP 63 [(.t 48)]) [48],
  o2 50 5 (.callP 68 [(.t 49)]) [49],
  o2 44 6 (.mv (.t 50)) [50],
  o2 51 7 (.extract 0 (.t 44)) [],
  o2 52 8 (.extract 1 (.t 44)) [44],
  (⟨⟨(some 11), none, .alloc 49 [(.int .u64 0), (.int .u64 0), (.int .u64 0), (.int .u64 0)]⟩, 9, [1, 0]⟩, []),
  (⟨⟨none, none, .store 4 (.t 11) (.t 51)⟩, 10, []⟩, [51]),
  o2 12 11 (.mv (.t 52)) [52]]
@[reducible] def fCvDecode_r10 : List (DOper × List Nat) := [
  o1 53 (.mv (.t 12)) [12],
  o1 54 (.un .not (.t 53)) [53],
  o1 55 (.mv (.t 54)) [54],
  (⟨⟨(some 56), (some (55, false)), .mv (.t 4)⟩, 0, []⟩, []),
  (⟨⟨(some 57), (some (55, false)), .mv (.t 56)⟩, 0, []⟩, [56]),
  (⟨⟨(some 58), (some (57, true)), .load (some 4) (.t 11)⟩, 0, []⟩, []),
  (⟨⟨(some 59), (some (57, true)), .build [(.int .u64 0), (.int .u64 0), (.int .u64 0), (.int .u64 0)] []⟩, 0, []⟩, []),
  (⟨⟨(some 60), (some (57, true)), .eqA false [.u64, .u64, .u64, .u64] (.t 58) (.t 59)⟩, 0, []⟩, [58, 59]),
  (⟨⟨(some 61), (some (55, false)), .pick (.t 57) (.t 60) (.k (.bool false))⟩, 0, []⟩, [57, 60]),
  o1 62 (.pick (.t 55) (.k (.bool true)) (.t 61)) [55, 61]]
@[reducible] def fCvDecode_r11 : List (DOper × List Nat) := [
  o1 63 (.build [(.int .u64 0), (.int .u64 0), (.int .u64 0), (.int .u64 0), (.int .u64 0), (.int .u64 0), (.int .u64 0), (.int .u64 0), (.int .u64 0), (.int .u64 0), (.int .u64 0), (.int .u64 0), (.int .u64 0), (.int .u64 0), (.int .u64 0), (.int .u64 0)] []) [],
  (⟨⟨none, none, .store 16 (.t 2) (.t 63)⟩, 0, []⟩, [63]),
  o1 3 (.mv (.k (.int .i64 7))) []]
@[reducible] def fCvDecode_k1 : KCode := (.keep [2] (.seq (.reg fCvDecode_r11) .ret))
@[reducible] def fCvDecode_r12 : List (DOper × List Nat) := [
  o1 64 (.mv (.t 4)) [4]]
@[reducible] def fCvDecode_r13 : List (DOper × List Nat) := [
  o1 65 (.load (some 4) (.t 11)) [],
  o1 66 (.call 69 [(.t 65)]) [65],
  (⟨⟨none, none, .store 4 (.t 11) (.t 66)⟩, 0, []⟩, [66])]
@[reducible] def fCvDecode_k2 : KCode := (.kill [64] (.reg fCvDecode_r13))
@[reducible] def fCvDecode_r14 : List (DOper × List Nat) := [
  o1 67 (.load (some 4) (.t 11)) [11],
  o1 68 (.load (some 4) (.t 5)) [5],
  o1 69 (.build [(.int .u64 0), (.int .u64 0), (.int .u64 0), (.int .u64 0), (.int .u64 0), (.int .u64 0), (.int .u64 0), (.int .u64 0)] [(0, 4, (.t 67)), (4, 4, (.t 68))]) [67, 68],
  o1 70 (.call 70 [(.t 69)]) [69],
  (⟨⟨none, none, .store 16 (.t 2) (.t 70)⟩, 0, []⟩, [70]),
  o1 3 (.mv (.k (.int .i64 0))) []]
/-- bosun/curve.Decode -/
@[reducible] def fCvDecode : KCode := (.seq (.reg fCvDecode_r0) (.seq (.reg fCvDecode_r1) (.seq (.reg fCvDecode_r2) (.seq (.reg fCvDecode_r3) (.seq (.seq (.reg fCvDecode_r4) (.cond (.t 27) fCvDecode_k0 (.kill [27] .skip))) (.keep [2, 4, 5] (.seq (.drawP 3 2 fCvDecode_r6) (.seq (.reg fCvDecode_r7) (.seq (.draw fCvDecode_r8) (.seq (.draw fCvDecode_r9) (.seq (.seq (.reg fCvDecode_r10) (.cond (.t 62) fCvDecode_k1 (.kill [62] .skip))) (.keep [2, 4, 5, 11] (.seq (.seq (.reg fCvDecode_r12) (.cond (.t 64) fCvDecode_k2 (.kill [64] .skip))) (.keep [2, 5, 11] (.seq (.reg fCvDecode_r14) .ret)))))))))))))))
@[reducible] def fCvDecode_rs : List IRes := [.cell 2 (some 16), .tmp 3]
theorem fCvDecode_low : lowFunc Try.prog 24 [(6, 0), (6, 4), (8, 1), (8, 4), (8, 6), (9, 2), (9, 4), (9, 5)] [(1000006, [3, 5, 6])] = some ⟨fCvDecode.bare, fCvDecode_rs, 71⟩ := by kernel_rfl

@[reducible] def fCvSum_r0 : List (DOper × List Nat) := [
  o1 2 (.box 51 (.t 0)) [0],
  o1 3 (.box 51 (.t 1)) [1],
  o1 4 (.alloc 51 [(.int .u64 0), (.int .u64 0), (.int .u64 0), (.int .u64 0), (.int .u64 0), (.int .u64 0), (.int .u64 0), (.int .u64 0), (.int .u64 0), (.int .u64 0), (.int .u64 0), (.int .u64 0), (.int .u64 0), (.int .u64 0), (.int .u64 0), (.int .u64 0)]) []]
@[reducible] def fCvSum_r1 : List (DOper × List Nat) := [
  o1 13 (.fieldAddr 4 (.t 2)) [],
  o2 14 1 (.load (some 4) (.t 13)) [13],
  o2 15 2 (.fieldAddr 0 (.t 2)) [],
  o2 16 3 (.load (some 4) (.t 15)) [15],
  o2 17 4 (.callP 64 [(.t 14), (.t 16)]) [14, 16],
  o2 18 5 (.fieldAddr 4 (.t 3)) [],
  o2 19 6 (.load (some 4) (.t 18)) [18],
  o2 20 7 (.fieldAddr 0 (.t 3)) [],
  o2 21 8 (.load (some 4) (.t 20)) [20],
  o2 22 9 (.callP 64 [(.t 19), (.t 21)]) [19, 21],
  o2 23 10 (.buildF 49 4 [(.int .u64 0), (.int .u64 0), (.int .u64 0), (.int .u64 0), (.int .u64 0), (.int .u64 0), (.int .u64 0), (.int .u64 0)] [(0, 4, (.t 17)), (4, 4, (.t 22))]) [17, 22],
  o2 24 11 (.callP 63 [(.t 23)]) [23],
  (⟨⟨(some 5), none, .alloc 49 [(.int .u64 0), (.int .u64 0), (.int .u64 0), (.int .u64 0)]⟩, 12, [8, 6, 3, 1]⟩, []),
  (⟨⟨none, none, .store 4 (.t 5) (.t 24)⟩, 13, []⟩, [24])]
@[reducible] def fCvSum_r2 : List (DOper × List Nat) := [
  o1 25 (.fieldAddr 4 (.t 2)) [],
  o2 26 1 (.load (some 4) (.t 25)) [25],
  o2 27 2 (.fieldAddr 0 (.t 2)) [],
  o2 28 3 (.load (some 4) (.t 27)) [27],
  o2 29 4 (.buildF 49 4 [(.int .u64 0), (.int .u64 0), (.int .u64 0), (.int .u64 0), (.int .u64 0), (.int .u64 0), (.int .u64 0), (.int .u64 0)] [(0, 4, (.t 26)), (4, 4, (.t 28))]) [26, 28],
  o2 30 5 (.callP 65 [(.t 29)]) [29],
  o2 31 6 (.fieldAddr 4 (.t 3)) [],
  o2 32 7 (.load (some 4) (.t 31)) [31],
  o2 33 8 (.fieldAddr 0 (.t 3)) [],
  o2 34 9 (.load (some 4) (.t 33)) [33],
  o2 35 10 (.buildF 49 4 [(.int .u64 0), (.int .u64 0), (.int .u64 0), (.int .u64 0), (.int .u64 0), (.int .u64 0), (.int .u64 0), (.int .u64 0)] [(0, 4, (.t 32)), (4, 4, (.t 34))]) [32, 34],
  o2 36 11 (.callP 65 [(.t 35)]) [35],
  o2 37 12 (.buildF 49 4 [(.int .u64 0), (.int .u64 0), (.int .u64 0), (.int .u64 0), (.int .u64 0), (.int .u64 0), (.int .u64 0), (.int .u64 0)] [(0, 4, (.t 30)), (4, 4, (.t 36))]) [30, 36],
  o2 38 13 (.callP 63 [(.t 37)]) [37],
  (⟨⟨(some 6), none, .alloc 49 [(.int .u64 0), (.int .u64 0), (.int .u64 0), (.int .u64 0)]⟩, 14, [9, 7, 3, 1]⟩, []),
  (⟨⟨none, none, .store 4 (.t 6) (.t 38)⟩, 15, []⟩, [38])]
@[reducible] def fCvSum_r3 : List (DOper × List Nat) := [
  o1 39 (.fieldAddr 12 (.t 2)) [],
  o2 40 1 (.load (some 4) (.t 39)) [39],
  o2 41 2 (.fieldAddr 12 (.t 3)) [],
  o2 42 3 (.load (some 4) (.t 41)) [41],
  o2 43 4 (.callP 66 []) [],
  o2 44 5 (.callP 62 [(.k (.int .u64 2))]) [],
  o2 45 6 (.buildF 49 4 [(.int .u64 0), (.int .u64 0), (.int .u64 0), (.int .u64 0), (.int .u64 0), (.int .u64 0), (.int .u64 0), (.int .u64 0), (.int .u64 0), (.int .u64 0), (.int .u64 0), (.int .u64 0), (.int .u64 0), (.int .u64 0), (.int .u64 0), (.int .u64 0)] [(0, 4, (.t 40)), (4, 4, (.t 42)), (8, 4, (.t 43)), (12, 4, (.t 44))]) [40, 42, 43, 44],
  o2 46 7 (.callP 63 [(.t 45)]) [45],
  (⟨⟨(some 7), none, .alloc 49 [(.int .u64 0), (.int .u64 0), (.int .u64 0), (.int .u64 0)]⟩, 8, [3, 1]⟩, []),
  (⟨⟨none, none, .store 4 (.t 7) (.t 46)⟩, 9, []⟩, [46])]
@[reducible] def fCvSum_r4 : List (DOper × List Nat) := [
  o1 47 (.fieldAddr 8 (.t 2)) [2],
  o2 48 1 (.load (some 4) (.t 47)) [47],
  o2 49 2 (.fieldAddr 8 (.t 3)) [3],
  o2 50 3 (.load (some 4) (.t 49)) [49],
  o2 51 4 (.callP 62 [(.k (.int .u64 2))]) [],
  o2 52 5 (.buildF 49 4 [(.int .u64 0), (.int .u64 0), (.int .u64 0), (.int .u64 0), (.int .u64 0), (.int .u64 0), (.int .u64 0), (.int .u64 0), (.int .u64 0), (.int .u64 0), (.int .u64 0), (.int .u64 0)] [(0, 4, (.t 48)), (4, 4, (.t 50)), (8, 4, (.t 51))]) [48, 50, 51],
  o2 53 6 (.callP 63 [(.t 52)]) [52],
  (⟨⟨(some 8), none, .alloc 49 [(.int .u64 0), (.int .u64 0), (.int .u64 0), (.int .u64 0)]⟩, 7, [3, 1]⟩, []),
  (⟨⟨none, none, .store 4 (.t 8) (.t 53)⟩, 8, []⟩, [53])]
@[reducible] def fCvSum_r5 : List (DOper × List Nat) := [
  o1 54 (.load (some 4) (.t 6)) [],
  o2 55 1 (.load (some 4) (.t 5)) [],
  o2 56 2 (.callP 64 [(.t 54), (.t 55)]) [54, 55],
  o2 57 3 (.load (some 4) (.t 8)) [],
  o2 58 4 (.load (some 4) (.t 7)) [],
  o2 59 5 (.callP 64 [(.t 57), (.t 58)]) [57, 58],
  o2 60 6 (.load (some 4) (.t 8)) [8],
  o2 61 7 (.load (some 4) (.t 7)) [7],
  o2 62 8 (.buildF 49 4 [(.int .u64 0), (.int .u64 0), (.int .u64 0), (.int .u64 0), (.int .u64 0), (.int .u64 0), (.int .u64 0), (.int .u64 0)] [(0, 4, (.t 60)), (4, 4, (.t 61))]) [60, 61],
  o2 63 9 (.callP 65 [(.t 62)]) [62],
  o2 64 10 (.load (some 4) (.t 6)) [6],
  o2 65 11 (.load (some 4) (.t 5)) [5],
  o2 66 12 (.buildF 49 4 [(.int .u64 0), (.int .u64 0), (.int .u64 0), (.int .u64 0), (.int .u64 0), (.int .u64 0), (.int .u64 0), (.int .u64 0)] [(0, 4, (.t 64)), (4, 4, (.t 65))]) [64, 65],
  o2 67 13 (.callP 65 [(.t 66)]) [66],
  (⟨⟨(some 9), none, .allocA 7 0 49 [(.int .u64 0), (.int .u64 0), (.int .u64 0), (.int .u64 0)]⟩, 14, [11, 10, 7, 6, 4, 3, 1, 0]⟩, []),
  (⟨⟨(some 10), none, .allocA 7 1 49 [(.int .u64 0), (.int .u64 0), (.int .u64 0), (.int .u64 0)]⟩, 15, [11, 10, 7, 6, 4, 3, 1, 0]⟩, []),
  (⟨⟨(some 11), none, .allocA 7 2 49 [(.int .u64 0), (.int .u64 0), (.int .u64 0), (.int .u64 0)]⟩, 16, [11, 10, 7, 6, 4, 3, 1, 0]⟩, []),
  (⟨⟨(some 12), none, .allocA 7 3 49 [(.int .u64 0), (.int .u64 0), (.int .u64 0), (.int .u64 0)]⟩, 17, [11, 10, 7, 6, 4, 3, 1, 0]⟩, []),
  (⟨⟨none, none, .store 4 (.t 9) (.t 56)⟩, 18, []⟩, [56]),
  (⟨⟨none, none, .store 4 (.t 10) (.t 59)⟩, 19, []⟩, [59]),
  (⟨⟨none, none, .store 4 (.t 11) (.t 63)⟩, 20, []⟩, [63]),
  (⟨⟨none, none, .store 4 (.t 12) (.t 67)⟩, 21, []⟩, [67])]
@[reducible] def fCvSum_r6 : List (DOper × List Nat) := [
  o1 68 (.load (some 4) (.t 9)) [],
  o2 69 1 (.load (some 4) (.t 10)) [],
  o2 70 2 (.buildF 49 4 [(.int .u64 0), (.int .u64 0), (.int .u64 0), (.int .u64 0), (.int .u64 0), (.int .u64 0), (.int .u64 0), (.int .u64 0)] [(0, 4, (.t 68)), (4, 4, (.t 69))]) [68, 69],
  o2 72 4 (.load (some 4) (.t 11)) [],
  o2 73 5 (.load (some 4) (.t 12)) [],
  o2 74 6 (.buildF 49 4 [(.int .u64 0), (.int .u64 0), (.int .u64 0), (.int .u64 0), (.int .u64 0), (.int .u64 0), (.int .u64 0), (.int .u64 0)] [(0, 4, (.t 72)), (4, 4, (.t 73))]) [72, 73],
  o2 76 8 (.load (some 4) (.t 10)) [10],
  o2 77 9 (.load (some 4) (.t 11)) [11],
  o2 78 10 (.buildF 49 4 [(.int .u64 0), (.int .u64 0), (.int .u64 0), (.int .u64 0), (.int .u64 0), (.int .u64 0), (.int .u64 0), (.int .u64 0)] [(0, 4, (.t 76)), (4, 4, (.t 77))]) [76, 77],
  o2 80 12 (.load (some 4) (.t 9)) [9],
  o2 81 13 (.load (some 4) (.t 12)) [12],
  o2 82 14 (.buildF 49 4 [(.int .u64 0), (.int .u64 0), (.int .u64 0), (.int .u64 0), (.int .u64 0), (.int .u64 0), (.int .u64 0), (.int .u64 0)] [(0, 4, (.t 80)), (4, 4, (.t 81))]) [80, 81],
  (⟨⟨(some 71), none, .call 63 [(.t 70)]⟩, 3, [13, 12, 9, 8, 5, 4]⟩, [70]),
  (⟨⟨(some 75), none, .call 63 [(.t 74)]⟩, 7, [13, 12, 9, 8]⟩, [74]),
  (⟨⟨(some 79), none, .call 63 [(.t 78)]⟩, 11, [13, 12]⟩, [78]),
  o2 83 15 (.call 63 [(.t 82)]) [82],
  o2 84 16 (.build [(.int .u64 0), (.int .u64 0), (.int .u64 0), (.int .u64 0), (.int .u64 0), (.int .u64 0), (.int .u64 0), (.int .u64 0), (.int .u64 0), (.int .u64 0), (.int .u64 0), (.int .u64 0), (.int .u64 0), (.int .u64 0), (.int .u64 0), (.int .u64 0)] [(0, 4, (.t 71)), (4, 4, (.t 75)), (8, 4, (.t 79)), (12, 4, (.t 83))]) [71, 75, 79, 83],
  (⟨⟨none, none, .store 16 (.t 4) (.t 84)⟩, 17, []⟩, [84])]
/-- bosun/curve.sum -/
@[reducible] def fCvSum : KCode := (.seq (.reg fCvSum_r0) (.seq (.draw fCvSum_r1) (.seq (.draw fCvSum_r2) (.seq (.draw fCvSum_r3) (.seq (.draw fCvSum_r4) (.seq (.drawP 7 4 fCvSum_r5) (.seq (.draw fCvSum_r6) .ret)))))))
@[reducible] def fCvSum_rs : List IRes := [.cell 4 (some 16)]
theorem fCvSum_low : lowFunc Try.prog 85 [(1, 4), (1, 9), (1, 11), (2, 5), (2, 11), (2, 13), (3, 4), (3, 5), (3, 7), (4, 4), (4, 6), (5, 2), (5, 5), (5, 9), (5, 13)] [(1000005, [7, 14, 15, 16, 17]), (6, [0, 1, 2, 4, 5, 6, 8, 9, 10, 12, 13, 14, 3, 7, 11, 15, 16, 17])] = some ⟨fCvSum.bare, fCvSum_rs, 85⟩ := by kernel_rfl

@[reducible] def fCvWhole_r0 : List (DOper × List Nat) := [
  o1 1 (.box 51 (.t 0)) [0],
  o1 2 (.alloc 51 [(.int .u64 0), (.int .u64 0), (.int .u64 0), (.int .u64 0), (.int .u64 0), (.int .u64 0), (.int .u64 0), (.int .u64 0), (.int .u64 0), (.int .u64 0), (.int .u64 0), (.int .u64 0), (.int .u64 0), (.int .u64 0), (.int .u64 0), (.int .u64 0)]) []]
@[reducible] def fCvWhole_r1 : List (DOper × List Nat) := [
  o1 3 (.load (some 16) (.t 1)) [],
  o1 4 (.build [(.int .u64 0), (.int .u64 0), (.int .u64 0), (.int .u64 0), (.int .u64 0), (.int .u64 0), (.int .u64 0), (.int .u64 0), (.int .u64 0), (.int .u64 0), (.int .u64 0), (.int .u64 0), (.int .u64 0), (.int .u64 0), (.int .u64 0), (.int .u64 0)] []) [],
  o1 5 (.eqA false [.u64, .u64, .u64, .u64, .u64, .u64, .u64, .u64, .u64, .u64, .u64, .u64, .u64, .u64, .u64, .u64] (.t 3) (.t 4)) [3, 4]]
@[reducible] def fCvWhole_r2 : List (DOper × List Nat) := [
  o1 6 (.call 38 []) [],
  (⟨⟨none, none, .store 16 (.t 2) (.t 6)⟩, 0, []⟩, [6])]
@[reducible] def fCvWhole_k0 : KCode := (.keep [2] (.seq (.reg fCvWhole_r2) .ret))
@[reducible] def fCvWhole_r3 : List (DOper × List Nat) := [
  o1 7 (.load (some 16) (.t 1)) [1],
  (⟨⟨none, none, .store 16 (.t 2) (.t 7)⟩, 0, []⟩, [7])]
/-- bosun/curve.whole -/
@[reducible] def fCvWhole : KCode := (.seq (.reg fCvWhole_r0) (.seq (.seq (.reg fCvWhole_r1) (.cond (.t 5) fCvWhole_k0 (.kill [5] .skip))) (.keep [1, 2] (.seq (.reg fCvWhole_r3) .ret))))
@[reducible] def fCvWhole_rs : List IRes := [.cell 2 (some 16)]
theorem fCvWhole_low : lowFunc Try.prog 84 [] [] = some ⟨fCvWhole.bare, fCvWhole_rs, 8⟩ := by kernel_rfl

@[reducible] def fCvAdd_r0 : List (DOper × List Nat) := [
  o1 2 (.alloc 51 [(.int .u64 0), (.int .u64 0), (.int .u64 0), (.int .u64 0), (.int .u64 0), (.int .u64 0), (.int .u64 0), (.int .u64 0), (.int .u64 0), (.int .u64 0), (.int .u64 0), (.int .u64 0), (.int .u64 0), (.int .u64 0), (.int .u64 0), (.int .u64 0)]) []]
@[reducible] def fCvAdd_r1 : List (DOper × List Nat) := [
  o1 6 (.call 38 []) [],
  o1 3 (.alloc 51 [(.int .u64 0), (.int .u64 0), (.int .u64 0), (.int .u64 0), (.int .u64 0), (.int .u64 0), (.int .u64 0), (.int .u64 0), (.int .u64 0), (.int .u64 0), (.int .u64 0), (.int .u64 0), (.int .u64 0), (.int .u64 0), (.int .u64 0), (.int .u64 0)]) [],
  (⟨⟨none, none, .store 16 (.t 3) (.t 6)⟩, 0, []⟩, [6])]
@[reducible] def fCvAdd_r2 : List (DOper × List Nat) := [
  o1 7 (.mv (.t 0)) [0],
  o1 8 (.len true (.t 7)) [],
  o1 9 (.mv (.k (.int .i64 0))) []]
@[reducible] def fCvAdd_r3 : List (DOper × List Nat) := [
  o1 10 (.bin false .lss (.t 9) (.t 8)) []]
@[reducible] def fCvAdd_k0 : KCode := (.keep [2, 3] (.exit 0))
@[reducible] def fCvAdd_r4 : List (DOper × List Nat) := [
  o1 11 (.idxS 16 (.t 7) (.t 9)) [],
  o1 12 (.load (some 16) (.t 11)) [11],
  o1 5 (.alloc 51 [(.int .u64 0), (.int .u64 0), (.int .u64 0), (.int .u64 0), (.int .u64 0), (.int .u64 0), (.int .u64 0), (.int .u64 0), (.int .u64 0), (.int .u64 0), (.int .u64 0), (.int .u64 0), (.int .u64 0), (.int .u64 0), (.int .u64 0), (.int .u64 0)]) [],
  (⟨⟨none, none, .store 16 (.t 5) (.t 12)⟩, 0, []⟩, [12])]
@[reducible] def fCvAdd_r5 : List (DOper × List Nat) := [
  o1 13 (.load (some 16) (.t 3)) [],
  o2 14 1 (.load (some 16) (.t 5)) [5],
  (⟨⟨(some 15), none, .call 84 [(.t 14)]⟩, 2, [0]⟩, [14]),
  o2 16 3 (.call 85 [(.t 13), (.t 15)]) [13, 15],
  (⟨⟨none, none, .store 16 (.t 3) (.t 16)⟩, 4, []⟩, [16])]
@[reducible] def fCvAdd_r6 : List (DOper × List Nat) := [
  o1 17 (.bin false .add (.t 9) (.k (.int .i64 1))) [9],
  o1 9 (.mv (.t 17)) [17]]
/-- live: [2, 3, 7, 8, 9] -/
@[reducible] def fCvAdd_l1 : KCode := (.seq (.reg fCvAdd_r3) (.seq (.cond (.t 10) (.kill [10] .skip) fCvAdd_k0) (.kill [10] (.seq (.block 1 (.seq (.reg fCvAdd_r4) (.draw fCvAdd_r5))) (.keep [2, 3, 7, 8, 9] (.reg fCvAdd_r6))))))
@[reducible] def fCvAdd_r7 : List (DOper × List Nat) := [
  o1 18 (.load (some 16) (.t 3)) [3],
  (⟨⟨none, none, .store 16 (.t 2) (.t 18)⟩, 0, []⟩, [18])]
/-- bosun/curve.Add -/
@[reducible] def fCvAdd : KCode := (.seq (.reg fCvAdd_r0) (.seq (.reg fCvAdd_r1) (.seq (.seq (.reg fCvAdd_r2) (.block 0 (.loop fCvAdd_l1))) (.keep [2, 3] (.seq (.reg fCvAdd_r7) .ret)))))
@[reducible] def fCvAdd_rs : List IRes := [.cell 2 (some 16)]
theorem fCvAdd_low : lowFunc Try.prog 32 [] [] = some ⟨fCvAdd.bare, fCvAdd_rs, 19⟩ := by kernel_rfl

@[reducible] def fCvTimes_r0 : List (DOper × List Nat) := [
  o1 2 (.box 51 (.t 0)) [0],
  o1 3 (.box 62 (.t 1)) [1],
  o1 4 (.alloc 51 [(.int .u64 0), (.int .u64 0), (.int .u64 0), (.int .u64 0), (.int .u64 0), (.int .u64 0), (.int .u64 0), (.int .u64 0), (.int .u64 0), (.int .u64 0), (.int .u64 0), (.int .u64 0), (.int .u64 0), (.int .u64 0), (.int .u64 0), (.int .u64 0)]) []]
@[reducible] def fCvTimes_r1 : List (DOper × List Nat) := [
  o1 7 (.load (some 16) (.t 2)) [],
  o1 8 (.call 84 [(.t 7)]) [7],
  (⟨⟨none, none, .store 16 (.t 2) (.t 8)⟩, 0, []⟩, [8])]
@[reducible] def fCvTimes_r2 : List (DOper × List Nat) := [
  o1 9 (.call 38 []) [],
  o1 5 (.alloc 51 [(.int .u64 0), (.int .u64 0), (.int .u64 0), (.int .u64 0), (.int .u64 0), (.int .u64 0), (.int .u64 0), (.int .u64 0), (.int .u64 0), (.int .u64 0), (.int .u64 0), (.int .u64 0), (.int .u64 0), (.int .u64 0), (.int .u64 0), (.int .u64 0)]) [],
  (⟨⟨none, none, .store 16 (.t 5) (.t 9)⟩, 0, []⟩, [9])]
@[reducible] def fCvTimes_r3 : List (DOper × List Nat) := [
  o1 6 (.mv (.k (.int .i64 255))) []]
@[reducible] def fCvTimes_r4 : List (DOper × List Nat) := [
  o1 10 (.mv (.t 6)) [],
  o1 11 (.bin false .geq (.t 10) (.k (.int .i64 0))) [10]]
@[reducible] def fCvTimes_k0 : KCode := (.keep [4, 5] (.exit 0))
@[reducible] def fCvTimes_r5 : List (DOper × List Nat) := [
  o1 14 (.load (some 16) (.t 5)) [],
  o1 15 (.load (some 16) (.t 5)) [],
  o1 16 (.call 85 [(.t 14), (.t 15)]) [14, 15],
  (⟨⟨none, none, .store 16 (.t 5) (.t 16)⟩, 0, []⟩, [16])]
@[reducible] def fCvTimes_r6 : List (DOper × List Nat) := [
  o1 17 (.load (some 4) (.t 3)) [],
  o1 18 (.mv (.t 6)) [],
  o1 19 (.call 86 [(.t 17), (.t 18)]) [17, 18]]
@[reducible] def fCvTimes_r7 : List (DOper × List Nat) := [
  o1 20 (.load (some 16) (.t 5)) [],
  o1 21 (.load (some 16) (.t 2)) [],
  o1 22 (.call 85 [(.t 20), (.t 21)]) [20, 21],
  (⟨⟨none, none, .store 16 (.t 5) (.t 22)⟩, 0, []⟩, [22])]
@[reducible] def fCvTimes_k1 : KCode := (.kill [19] (.reg fCvTimes_r7))
@[reducible] def fCvTimes_r8 : List (DOper × List Nat) := [
  o1 12 (.mv (.t 6)) [6],
  o1 13 (.bin false .sub (.t 12) (.k (.int .i64 1))) [12],
  o1 6 (.mv (.t 13)) [13]]
/-- live: [2, 3, 4, 5, 6] -/
@[reducible] def fCvTimes_l2 : KCode := (.seq (.seq (.reg fCvTimes_r4) (.cond (.t 11) (.kill [11] .skip) fCvTimes_k0)) (.kill [10, 11] (.seq (.block 1 (.seq (.reg fCvTimes_r5) (.seq (.reg fCvTimes_r6) (.cond (.t 19) fCvTimes_k1 (.kill [19] .skip))))) (.keep [2, 3, 4, 5, 6] (.reg fCvTimes_r8)))))
@[reducible] def fCvTimes_r9 : List (DOper × List Nat) := [
  o1 23 (.load (some 16) (.t 5)) [5],
  (⟨⟨none, none, .store 16 (.t 4) (.t 23)⟩, 0, []⟩, [23])]
/-- (bosun/curve.Point).Times -/
@[reducible] def fCvTimes : KCode := (.seq (.reg fCvTimes_r0) (.seq (.reg fCvTimes_r1) (.seq (.reg fCvTimes_r2) (.seq (.seq (.reg fCvTimes_r3) (.block 0 (.loop fCvTimes_l2))) (.keep [4, 5] (.seq (.reg fCvTimes_r9) .ret))))))
@[reducible] def fCvTimes_rs : List IRes := [.cell 4 (some 16)]
theorem fCvTimes_low : lowFunc Try.prog 27 [] [] = some ⟨fCvTimes.bare, fCvTimes_rs, 24⟩ := by kernel_rfl

@[reducible] def fCvSame_r0 : List (DOper × List Nat) := [
  o1 2 (.box 51 (.t 0)) [0],
  o1 3 (.box 51 (.t 1)) [1],
  o1 4 (.mv (.k (.bool false))) [4]]
@[reducible] def fCvSame_r1 : List (DOper × List Nat) := [
  o1 5 (.load (some 16) (.t 2)) [],
  o2 7 2 (.load (some 16) (.t 3)) [],
  (⟨⟨(some 6), none, .call 84 [(.t 5)]⟩, 1, [2]⟩, [5]),
  o2 8 3 (.call 84 [(.t 7)]) [7],
  (⟨⟨none, none, .store 16 (.t 2) (.t 6)⟩, 4, []⟩, [6]),
  (⟨⟨none, none, .store 16 (.t 3) (.t 8)⟩, 5, []⟩, [8])]
@[reducible] def fCvSame_r2 : List (DOper × List Nat) := [
  o1 9 (.fieldAddr 0 (.t 2)) [],
  o2 10 1 (.load (some 4) (.t 9)) [9],
  o2 11 2 (.fieldAddr 8 (.t 3)) [],
  o2 12 3 (.load (some 4) (.t 11)) [11],
  o2 13 4 (.buildF 49 4 [(.int .u64 0), (.int .u64 0), (.int .u64 0), (.int .u64 0), (.int .u64 0), (.int .u64 0), (.int .u64 0), (.int .u64 0)] [(0, 4, (.t 10)), (4, 4, (.t 12))]) [10, 12],
  o2 15 6 (.fieldAddr 0 (.t 3)) [],
  o2 16 7 (.load (some 4) (.t 15)) [15],
  o2 17 8 (.fieldAddr 8 (.t 2)) [],
  o2 18 9 (.load (some 4) (.t 17)) [17],
  o2 19 10 (.buildF 49 4 [(.int .u64 0), (.int .u64 0), (.int .u64 0), (.int .u64 0), (.int .u64 0), (.int .u64 0), (.int .u64 0), (.int .u64 0)] [(0, 4, (.t 16)), (4, 4, (.t 18))]) [16, 18],
  (⟨⟨(some 14), none, .call 63 [(.t 13)]⟩, 5, [9, 7]⟩, [13]),
  o2 20 11 (.call 63 [(.t 19)]) [19],
  o2 21 12 (.eqA false [.u64, .u64, .u64, .u64] (.t 14) (.t 20)) [14, 20],
  o2 22 13 (.mv (.t 21)) [21],
  (⟨⟨(some 23), (some (22, true)), .fieldAddr 4 (.t 2)⟩, 14, []⟩, []),
  (⟨⟨(some 24), (some (22, true)), .load (some 4) (.t 23)⟩, 15, []⟩, [23]),
  (⟨⟨(some 25), (some (22, true)), .fieldAddr 8 (.t 3)⟩, 16, []⟩, []),
  (⟨⟨(some 26), (some (22, true)), .load (some 4) (.t 25)⟩, 17, []⟩, [25]),
  (⟨⟨(some 27), (some (22, true)), .buildF 49 4 [(.int .u64 0), (.int .u64 0), (.int .u64 0), (.int .u64 0), (.int .u64 0), (.int .u64 0), (.int .u64 0), (.int .u64 0)] [(0, 4, (.t 24)), (4, 4, (.t 26))]⟩, 18, []⟩, [24, 26]),
  (⟨⟨(some 29), (some (22, true)), .fieldAddr 4 (.t 3)⟩, 20, []⟩, [3]),
  (⟨⟨(some 30), (some (22, true)), .load (some 4) (.t 29)⟩, 21, []⟩, [29]),
  (⟨⟨(some 31), (some (22, true)), .fieldAddr 8 (.t 2)⟩, 22, []⟩, [2]),
  (⟨⟨(some 32), (some (22, true)), .load (some 4) (.t 31)⟩, 23, []⟩, [31]),
  (⟨⟨(some 33), (some (22, true)), .buildF 49 4 [(.int .u64 0), (.int .u64 0), (.int .u64 0), (.int .u64 0), (.int .u64 0), (.int .u64 0), (.int .u64 0), (.int .u64 0)] [(0, 4, (.t 30)), (4, 4, (.t 32))]⟩, 24, []⟩, [30, 32]),
  (⟨⟨(some 28), (some (22, true)), .call 63 [(.t 27)]⟩, 19, [23, 21]⟩, [27]),
  (⟨⟨(some 34), (some (22, true)), .call 63 [(.t 33)]⟩, 25, []⟩, [33]),
  (⟨⟨(some 35), (some (22, true)), .eqA false [.u64, .u64, .u64, .u64] (.t 28) (.t 34)⟩, 26, []⟩, [28, 34]),
  o2 36 27 (.pick (.t 22) (.t 35) (.k (.bool false))) [22, 35],
  o2 4 28 (.mv (.t 36)) [36]]
/-- bosun/curve.Same -/
@[reducible] def fCvSame : KCode := (.seq (.reg fCvSame_r0) (.seq (.draw fCvSame_r1) (.seq (.draw fCvSame_r2) .ret)))
@[reducible] def fCvSame_rs : List IRes := [.tmp 4]
theorem fCvSame_low : lowFunc Try.prog 36 [] [(1, [0, 2, 1, 3, 4, 5]), (2, [0, 1, 2, 3, 4, 6, 7, 8, 9, 10, 5, 11, 12, 13, 14, 15, 16, 17, 18, 20, 21, 22, 23, 24, 19, 25, 26, 27, 28])] = some ⟨fCvSame.bare, fCvSame_rs, 37⟩ := by kernel_rfl

@[reducible] def fRCvD_r0 : List (DOper × List Nat) := [
  o1 0 (.alloc 55 [(.int .i64 0), (.int .i64 0), (.int .i64 0), (.int .i64 0), (.int .i64 0), (.int .i64 0), (.int .i64 0), (.int .i64 0), (.int .i64 0), (.int .i64 0), (.int .i64 0), (.int .i64 0), (.int .i64 0), (.int .i64 0), (.int .i64 0), (.int .i64 0), (.int .i64 0)]) []]
@[reducible] def fRCvD_r1 : List (DOper × List Nat) := [
  o1 1 (.call 74 [(.k (.int .i64 3))]) [],
  o1 2 (.call 74 [(.k (.int .i64 30000))]) [],
  o1 3 (.call 74 [(.k (.int .i64 10555))]) [],
  o1 4 (.call 78 [(.t 2), (.t 3)]) [2, 3],
  o1 5 (.call 75 [(.t 1), (.t 4)]) [1, 4],
  o1 6 (.call 80 [(.t 5)]) [5],
  o1 7 (.call 74 [(.k (.int .i64 4))]) [],
  o1 8 (.call 74 [(.k (.int .i64 30000))]) [],
  o1 9 (.call 75 [(.t 7), (.t 8)]) [7, 8],
  o1 10 (.call 74 [(.k (.int .i64 1666))]) [],
  o1 11 (.call 78 [(.t 9), (.t 10)]) [9, 10],
  o1 12 (.call 77 [(.t 11)]) [11],
  o1 13 (.call 75 [(.t 6), (.t 12)]) [6, 12],
  (⟨⟨none, none, .store 17 (.t 0) (.t 13)⟩, 0, []⟩, [13])]
/-- bosun/bosunref07.D -/
@[reducible] def fRCvD : KCode := (.seq (.reg fRCvD_r0) (.seq (.reg fRCvD_r1) .ret))
@[reducible] def fRCvD_rs : List IRes := [.cell 0 (some 17)]
theorem fRCvD_low : lowFunc Try.prog 30 [] [] = some ⟨fRCvD.bare, fRCvD_rs, 14⟩ := by kernel_rfl

@[reducible] def fRCvNone_r0 : List (DOper × List Nat) := [
  o1 0 (.alloc 57 [(.int .i64 0), (.int .i64 0), (.int .i64 0), (.int .i64 0), (.int .i64 0), (.int .i64 0), (.int .i64 0), (.int .i64 0), (.int .i64 0), (.int .i64 0), (.int .i64 0), (.int .i64 0), (.int .i64 0), (.int .i64 0), (.int .i64 0), (.int .i64 0), (.int .i64 0), (.int .i64 0), (.int .i64 0), (.int .i64 0), (.int .i64 0), (.int .i64 0), (.int .i64 0), (.int .i64 0), (.int .i64 0), (.int .i64 0), (.int .i64 0), (.int .i64 0), (.int .i64 0), (.int .i64 0), (.int .i64 0), (.int .i64 0), (.int .i64 0), (.int .i64 0), (.int .i64 0), (.int .i64 0), (.int .i64 0), (.int .i64 0), (.int .i64 0), (.int .i64 0), (.int .i64 0), (.int .i64 0), (.int .i64 0), (.int .i64 0), (.int .i64 0), (.int .i64 0), (.int .i64 0), (.int .i64 0), (.int .i64 0), (.int .i64 0), (.int .i64 0)]) []]
@[reducible] def fRCvNone_r1 : List (DOper × List Nat) := [
  o1 1 (.call 74 [(.k (.int .i64 0))]) [],
  o1 2 (.call 74 [(.k (.int .i64 1))]) [],
  o1 3 (.call 74 [(.k (.int .i64 1))]) [],
  o1 4 (.build [(.int .i64 0), (.int .i64 0), (.int .i64 0), (.int .i64 0), (.int .i64 0), (.int .i64 0), (.int .i64 0), (.int .i64 0), (.int .i64 0), (.int .i64 0), (.int .i64 0), (.int .i64 0), (.int .i64 0), (.int .i64 0), (.int .i64 0), (.int .i64 0), (.int .i64 0), (.int .i64 0), (.int .i64 0), (.int .i64 0), (.int .i64 0), (.int .i64 0), (.int .i64 0), (.int .i64 0), (.int .i64 0), (.int .i64 0), (.int .i64 0), (.int .i64 0), (.int .i64 0), (.int .i64 0), (.int .i64 0), (.int .i64 0), (.int .i64 0), (.int .i64 0), (.int .i64 0), (.int .i64 0), (.int .i64 0), (.int .i64 0), (.int .i64 0), (.int .i64 0), (.int .i64 0), (.int .i64 0), (.int .i64 0), (.int .i64 0), (.int .i64 0), (.int .i64 0), (.int .i64 0), (.int .i64 0), (.int .i64 0), (.int .i64 0), (.int .i64 0)] [(0, 17, (.t 1)), (17, 17, (.t 2)), (34, 17, (.t 3))]) [1, 2, 3],
  (⟨⟨none, none, .store 51 (.t 0) (.t 4)⟩, 0, []⟩, [4])]
/-- bosun/bosunref07.None -/
@[reducible] def fRCvNone : KCode := (.seq (.reg fRCvNone_r0) (.seq (.reg fRCvNone_r1) .ret))
@[reducible] def fRCvNone_rs : List IRes := [.cell 0 (some 51)]
theorem fRCvNone_low : lowFunc Try.prog 88 [] [] = some ⟨fRCvNone.bare, fRCvNone_rs, 5⟩ := by kernel_rfl

@[reducible] def fRCvAdd_r0 : List (DOper × List Nat) := [
  o1 3 (.box 57 (.t 0)) [0],
  o1 4 (.box 57 (.t 1)) [1],
  o1 5 (.box 55 (.t 2)) [2],
  o1 6 (.alloc 57 [(.int .i64 0), (.int .i64 0), (.int .i64 0), (.int .i64 0), (.int .i64 0), (.int .i64 0), (.int .i64 0), (.int .i64 0), (.int .i64 0), (.int .i64 0), (.int .i64 0), (.int .i64 0), (.int .i64 0), (.int .i64 0), (.int .i64 0), (.int .i64 0), (.int .i64 0), (.int .i64 0), (.int .i64 0), (.int .i64 0), (.int .i64 0), (.int .i64 0), (.int .i64 0), (.int .i64 0), (.int .i64 0), (.int .i64 0), (.int .i64 0), (.int .i64 0), (.int .i64 0), (.int .i64 0), (.int .i64 0), (.int .i64 0), (.int .i64 0), (.int .i64 0), (.int .i64 0), (.int .i64 0), (.int .i64 0), (.int .i64 0), (.int .i64 0), (.int .i64 0), (.int .i64 0), (.int .i64 0), (.int .i64 0), (.int .i64 0), (.int .i64 0), (.int .i64 0), (.int .i64 0), (.int .i64 0), (.int .i64 0), (.int .i64 0), (.int .i64 0)]) []]
@[reducible] def fRCvAdd_r1 : List (DOper × List Nat) := [
  o1 15 (.fieldAddr 34 (.t 3)) [],
  o1 16 (.load (some 17) (.t 15)) [15],
  o1 17 (.fieldAddr 34 (.t 4)) [],
  o1 18 (.load (some 17) (.t 17)) [17],
  o1 19 (.call 75 [(.t 16), (.t 18)]) [16, 18],
  o1 7 (.alloc 55 [(.int .i64 0), (.int .i64 0), (.int .i64 0), (.int .i64 0), (.int .i64 0), (.int .i64 0), (.int .i64 0), (.int .i64 0), (.int .i64 0), (.int .i64 0), (.int .i64 0), (.int .i64 0), (.int .i64 0), (.int .i64 0), (.int .i64 0), (.int .i64 0), (.int .i64 0)]) [],
  (⟨⟨none, none, .store 17 (.t 7) (.t 19)⟩, 0, []⟩, [19])]
@[reducible] def fRCvAdd_r2 : List (DOper × List Nat) := [
  o1 20 (.load (some 17) (.t 7)) [],
  o1 21 (.load (some 17) (.t 7)) [],
  o1 22 (.call 75 [(.t 20), (.t 21)]) [20, 21],
  o1 8 (.alloc 55 [(.int .i64 0), (.int .i64 0), (.int .i64 0), (.int .i64 0), (.int .i64 0), (.int .i64 0), (.int .i64 0), (.int .i64 0), (.int .i64 0), (.int .i64 0), (.int .i64 0), (.int .i64 0), (.int .i64 0), (.int .i64 0), (.int .i64 0), (.int .i64 0), (.int .i64 0)]) [],
  (⟨⟨none, none, .store 17 (.t 8) (.t 22)⟩, 0, []⟩, [22])]
@[reducible] def fRCvAdd_r3 : List (DOper × List Nat) := [
  o1 23 (.fieldAddr 0 (.t 3)) [],
  o1 24 (.load (some 17) (.t 23)) [23],
  o1 25 (.fieldAddr 0 (.t 4)) [],
  o1 26 (.load (some 17) (.t 25)) [25],
  o1 27 (.call 75 [(.t 24), (.t 26)]) [24, 26],
  o1 9 (.alloc 55 [(.int .i64 0), (.int .i64 0), (.int .i64 0), (.int .i64 0), (.int .i64 0), (.int .i64 0), (.int .i64 0), (.int .i64 0), (.int .i64 0), (.int .i64 0), (.int .i64 0), (.int .i64 0), (.int .i64 0), (.int .i64 0), (.int .i64 0), (.int .i64 0), (.int .i64 0)]) [],
  (⟨⟨none, none, .store 17 (.t 9) (.t 27)⟩, 0, []⟩, [27])]
@[reducible] def fRCvAdd_r4 : List (DOper × List Nat) := [
  o1 28 (.fieldAddr 17 (.t 3)) [],
  o1 29 (.load (some 17) (.t 28)) [28],
  o1 30 (.fieldAddr 17 (.t 4)) [],
  o1 31 (.load (some 17) (.t 30)) [30],
  o1 32 (.call 75 [(.t 29), (.t 31)]) [29, 31],
  o1 10 (.alloc 55 [(.int .i64 0), (.int .i64 0), (.int .i64 0), (.int .i64 0), (.int .i64 0), (.int .i64 0), (.int .i64 0), (.int .i64 0), (.int .i64 0), (.int .i64 0), (.int .i64 0), (.int .i64 0), (.int .i64 0), (.int .i64 0), (.int .i64 0), (.int .i64 0), (.int .i64 0)]) [],
  (⟨⟨none, none, .store 17 (.t 10) (.t 32)⟩, 0, []⟩, [32])]
@[reducible] def fRCvAdd_r5 : List (DOper × List Nat) := [
  o1 33 (.load (some 17) (.t 5)) [5],
  o2 34 1 (.load (some 17) (.t 9)) [],
  o2 35 2 (.load (some 17) (.t 10)) [],
  o2 36 3 (.callP 75 [(.t 34), (.t 35)]) [34, 35],
  o2 37 4 (.callP 75 [(.t 33), (.t 36)]) [33, 36],
  (⟨⟨(some 11), none, .alloc 55 [(.int .i64 0), (.int .i64 0), (.int .i64 0), (.int .i64 0), (.int .i64 0), (.int .i64 0), (.int .i64 0), (.int .i64 0), (.int .i64 0), (.int .i64 0), (.int .i64 0), (.int .i64 0), (.int .i64 0), (.int .i64 0), (.int .i64 0), (.int .i64 0), (.int .i64 0)]⟩, 5, [2, 1, 0]⟩, []),
  (⟨⟨none, none, .store 17 (.t 11) (.t 37)⟩, 6, []⟩, [37])]
@[reducible] def fRCvAdd_r6 : List (DOper × List Nat) := [
  o1 38 (.load (some 17) (.t 8)) [],
  o1 39 (.load (some 17) (.t 11)) [],
  o1 40 (.call 76 [(.t 38), (.t 39)]) [38, 39],
  o1 12 (.alloc 55 [(.int .i64 0), (.int .i64 0), (.int .i64 0), (.int .i64 0), (.int .i64 0), (.int .i64 0), (.int .i64 0), (.int .i64 0), (.int .i64 0), (.int .i64 0), (.int .i64 0), (.int .i64 0), (.int .i64 0), (.int .i64 0), (.int .i64 0), (.int .i64 0), (.int .i64 0)]) [],
  (⟨⟨none, none, .store 17 (.t 12) (.t 40)⟩, 0, []⟩, [40])]
@[reducible] def fRCvAdd_r7 : List (DOper × List Nat) := [
  o1 41 (.load (some 17) (.t 8)) [8],
  o1 42 (.load (some 17) (.t 11)) [11],
  o1 43 (.call 78 [(.t 41), (.t 42)]) [41, 42],
  o1 13 (.alloc 55 [(.int .i64 0), (.int .i64 0), (.int .i64 0), (.int .i64 0), (.int .i64 0), (.int .i64 0), (.int .i64 0), (.int .i64 0), (.int .i64 0), (.int .i64 0), (.int .i64 0), (.int .i64 0), (.int .i64 0), (.int .i64 0), (.int .i64 0), (.int .i64 0), (.int .i64 0)]) [],
  (⟨⟨none, none, .store 17 (.t 13) (.t 43)⟩, 0, []⟩, [43])]
@[reducible] def fRCvAdd_r8 : List (DOper × List Nat) := [
  o1 44 (.fieldAddr 0 (.t 3)) [],
  o2 45 1 (.load (some 17) (.t 44)) [44],
  o2 46 2 (.fieldAddr 17 (.t 3)) [3],
  o2 47 3 (.load (some 17) (.t 46)) [46],
  o2 48 4 (.callP 78 [(.t 45), (.t 47)]) [45, 47],
  o2 49 5 (.fieldAddr 0 (.t 4)) [],
  o2 50 6 (.load (some 17) (.t 49)) [49],
  o2 51 7 (.fieldAddr 17 (.t 4)) [4],
  o2 52 8 (.load (some 17) (.t 51)) [51],
  o2 53 9 (.callP 78 [(.t 50), (.t 52)]) [50, 52],
  o2 54 10 (.callP 75 [(.t 48), (.t 53)]) [48, 53],
  o2 55 11 (.load (some 17) (.t 9)) [],
  o2 56 12 (.callP 76 [(.t 54), (.t 55)]) [54, 55],
  o2 57 13 (.load (some 17) (.t 10)) [],
  o2 58 14 (.callP 76 [(.t 56), (.t 57)]) [56, 57],
  (⟨⟨(some 14), none, .alloc 55 [(.int .i64 0), (.int .i64 0), (.int .i64 0), (.int .i64 0), (.int .i64 0), (.int .i64 0), (.int .i64 0), (.int .i64 0), (.int .i64 0), (.int .i64 0), (.int .i64 0), (.int .i64 0), (.int .i64 0), (.int .i64 0), (.int .i64 0), (.int .i64 0), (.int .i64 0)]⟩, 15, [13, 11, 8, 6, 3, 1]⟩, []),
  (⟨⟨none, none, .store 17 (.t 14) (.t 58)⟩, 16, []⟩, [58])]
@[reducible] def fRCvAdd_r9 : List (DOper × List Nat) := [
  o1 59 (.load (some 17) (.t 7)) [],
  o2 60 1 (.load (some 17) (.t 12)) [],
  o2 62 3 (.load (some 17) (.t 14)) [14],
  o2 64 5 (.load (some 17) (.t 7)) [7],
  o2 65 6 (.load (some 17) (.t 13)) [],
  o2 67 8 (.load (some 17) (.t 10)) [10],
  o2 68 9 (.load (some 17) (.t 9)) [9],
  o2 71 12 (.load (some 17) (.t 12)) [12],
  o2 72 13 (.load (some 17) (.t 13)) [13],
  (⟨⟨(some 61), none, .call 75 [(.t 59), (.t 60)]⟩, 2, [13, 12, 9, 8, 6, 5, 3]⟩, [59, 60]),
  (⟨⟨(some 63), none, .call 75 [(.t 61), (.t 62)]⟩, 4, [13, 12, 9, 8, 6, 5]⟩, [61, 62]),
  (⟨⟨(some 66), none, .call 75 [(.t 64), (.t 65)]⟩, 7, [13, 12, 9, 8]⟩, [64, 65]),
  (⟨⟨(some 69), none, .call 78 [(.t 67), (.t 68)]⟩, 10, [13, 12]⟩, [67, 68]),
  (⟨⟨(some 70), none, .call 75 [(.t 66), (.t 69)]⟩, 11, [13, 12]⟩, [66, 69]),
  o2 73 14 (.call 75 [(.t 71), (.t 72)]) [71, 72],
  o2 74 15 (.build [(.int .i64 0), (.int .i64 0), (.int .i64 0), (.int .i64 0), (.int .i64 0), (.int .i64 0), (.int .i64 0), (.int .i64 0), (.int .i64 0), (.int .i64 0), (.int .i64 0), (.int .i64 0), (.int .i64 0), (.int .i64 0), (.int .i64 0), (.int .i64 0), (.int .i64 0), (.int .i64 0), (.int .i64 0), (.int .i64 0), (.int .i64 0), (.int .i64 0), (.int .i64 0), (.int .i64 0), (.int .i64 0), (.int .i64 0), (.int .i64 0), (.int .i64 0), (.int .i64 0), (.int .i64 0), (.int .i64 0), (.int .i64 0), (.int .i64 0), (.int .i64 0), (.int .i64 0), (.int .i64 0), (.int .i64 0), (.int .i64 0), (.int .i64 0), (.int .i64 0), (.int .i64 0), (.int .i64 0), (.int .i64 0), (.int .i64 0), (.int .i64 0), (.int .i64 0), (.int .i64 0), (.int .i64 0), (.int .i64 0), (.int .i64 0), (.int .i64 0)] [(0, 17, (.t 63)), (17, 17, (.t 70)), (34, 17, (.t 73))]) [63, 70, 73],
  (⟨⟨none, none, .store 51 (.t 6) (.t 74)⟩, 16, []⟩, [74])]
/-- bosun/bosunref07.Add -/
@[reducible] def fRCvAdd : KCode := (.seq (.reg fRCvAdd_r0) (.seq (.reg fRCvAdd_r1) (.seq (.reg fRCvAdd_r2) (.seq (.reg fRCvAdd_r3) (.seq (.reg fRCvAdd_r4) (.seq (.draw fRCvAdd_r5) (.seq (.reg fRCvAdd_r6) (.seq (.reg fRCvAdd_r7) (.seq (.draw fRCvAdd_r8) (.seq (.draw fRCvAdd_r9) .ret))))))))))
@[reducible] def fRCvAdd_rs : List IRes := [.cell 6 (some 51)]
theorem fRCvAdd_low : lowFunc Try.prog 34 [(5, 3), (5, 4), (8, 4), (8, 9), (8, 10), (8, 12), (8, 14)] [(9, [0, 1, 3, 5, 6, 8, 9, 12, 13, 2, 4, 7, 10, 11, 14, 15, 16])] = some ⟨fRCvAdd.bare, fRCvAdd_rs, 75⟩ := by kernel_rfl

@[reducible] def fRCvTimes_r0 : List (DOper × List Nat) := [
  o1 3 (.box 57 (.t 0)) [0],
  o1 4 (.box 48 (.t 1)) [1],
  o1 5 (.box 55 (.t 2)) [2],
  o1 6 (.alloc 57 [(.int .i64 0), (.int .i64 0), (.int .i64 0), (.int .i64 0), (.int .i64 0), (.int .i64 0), (.int .i64 0), (.int .i64 0), (.int .i64 0), (.int .i64 0), (.int .i64 0), (.int .i64 0), (.int .i64 0), (.int .i64 0), (.int .i64 0), (.int .i64 0), (.int .i64 0), (.int .i64 0), (.int .i64 0), (.int .i64 0), (.int .i64 0), (.int .i64 0), (.int .i64 0), (.int .i64 0), (.int .i64 0), (.int .i64 0), (.int .i64 0), (.int .i64 0), (.int .i64 0), (.int .i64 0), (.int .i64 0), (.int .i64 0), (.int .i64 0), (.int .i64 0), (.int .i64 0), (.int .i64 0), (.int .i64 0), (.int .i64 0), (.int .i64 0), (.int .i64 0), (.int .i64 0), (.int .i64 0), (.int .i64 0), (.int .i64 0), (.int .i64 0), (.int .i64 0), (.int .i64 0), (.int .i64 0), (.int .i64 0), (.int .i64 0), (.int .i64 0)]) []]
@[reducible] def fRCvTimes_r1 : List (DOper × List Nat) := [
  o1 9 (.call 88 []) [],
  o1 7 (.alloc 57 [(.int .i64 0), (.int .i64 0), (.int .i64 0), (.int .i64 0), (.int .i64 0), (.int .i64 0), (.int .i64 0), (.int .i64 0), (.int .i64 0), (.int .i64 0), (.int .i64 0), (.int .i64 0), (.int .i64 0), (.int .i64 0), (.int .i64 0), (.int .i64 0), (.int .i64 0), (.int .i64 0), (.int .i64 0), (.int .i64 0), (.int .i64 0), (.int .i64 0), (.int .i64 0), (.int .i64 0), (.int .i64 0), (.int .i64 0), (.int .i64 0), (.int .i64 0), (.int .i64 0), (.int .i64 0), (.int .i64 0), (.int .i64 0), (.int .i64 0), (.int .i64 0), (.int .i64 0), (.int .i64 0), (.int .i64 0), (.int .i64 0), (.int .i64 0), (.int .i64 0), (.int .i64 0), (.int .i64 0), (.int .i64 0), (.int .i64 0), (.int .i64 0), (.int .i64 0), (.int .i64 0), (.int .i64 0), (.int .i64 0), (.int .i64 0), (.int .i64 0)]) [],
  (⟨⟨none, none, .store 51 (.t 7) (.t 9)⟩, 0, []⟩, [9])]
@[reducible] def fRCvTimes_r2 : List (DOper × List Nat) := [
  o1 8 (.mv (.k (.int .i64 255))) []]
@[reducible] def fRCvTimes_r3 : List (DOper × List Nat) := [
  o1 10 (.mv (.t 8)) [],
  o1 11 (.bin false .geq (.t 10) (.k (.int .i64 0))) [10]]
@[reducible] def fRCvTimes_k0 : KCode := (.keep [6, 7] (.exit 0))
@[reducible] def fRCvTimes_r4 : List (DOper × List Nat) := [
  o1 14 (.load (some 51) (.t 7)) [],
  o1 15 (.load (some 51) (.t 7)) [],
  o1 16 (.load (some 17) (.t 5)) [],
  o1 17 (.call 34 [(.t 14), (.t 15), (.t 16)]) [14, 15, 16],
  (⟨⟨none, none, .store 51 (.t 7) (.t 17)⟩, 0, []⟩, [17])]
@[reducible] def fRCvTimes_r5 : List (DOper × List Nat) := [
  o1 18 (.mv (.t 8)) [],
  o1 19 (.bin false .quo (.t 18) (.k (.int .i64 64))) [18],
  o1 20 (.idxA 4 1 (.t 4) (.t 19)) [19],
  o1 21 (.load none (.t 20)) [20],
  o1 22 (.mv (.t 8)) [],
  o1 23 (.bin false .rem (.t 22) (.k (.int .i64 64))) [22],
  o1 24 (.bin false .shr (.t 21) (.t 23)) [21, 23],
  o1 25 (.bin false .rem (.t 24) (.k (.int .u64 2))) [24],
  o1 26 (.bin false .eql (.t 25) (.k (.int .u64 1))) [25]]
@[reducible] def fRCvTimes_r6 : List (DOper × List Nat) := [
  o1 27 (.load (some 51) (.t 7)) [],
  o1 28 (.load (some 51) (.t 3)) [],
  o1 29 (.load (some 17) (.t 5)) [],
  o1 30 (.call 34 [(.t 27), (.t 28), (.t 29)]) [27, 28, 29],
  (⟨⟨none, none, .store 51 (.t 7) (.t 30)⟩, 0, []⟩, [30])]
@[reducible] def fRCvTimes_k1 : KCode := (.kill [26] (.reg fRCvTimes_r6))
@[reducible] def fRCvTimes_r7 : List (DOper × List Nat) := [
  o1 12 (.mv (.t 8)) [8],
  o1 13 (.bin false .sub (.t 12) (.k (.int .i64 1))) [12],
  o1 8 (.mv (.t 13)) [13]]
/-- live: [3, 4, 5, 6, 7, 8] -/
@[reducible] def fRCvTimes_l2 : KCode := (.seq (.seq (.reg fRCvTimes_r3) (.cond (.t 11) (.kill [11] .skip) fRCvTimes_k0)) (.kill [10, 11] (.seq (.block 1 (.seq (.reg fRCvTimes_r4) (.seq (.reg fRCvTimes_r5) (.cond (.t 26) fRCvTimes_k1 (.kill [26] .skip))))) (.keep [3, 4, 5, 6, 7, 8] (.reg fRCvTimes_r7)))))
@[reducible] def fRCvTimes_r8 : List (DOper × List Nat) := [
  o1 31 (.load (some 51) (.t 7)) [7],
  (⟨⟨none, none, .store 51 (.t 6) (.t 31)⟩, 0, []⟩, [31])]
/-- bosun/bosunref07.Times -/
@[reducible] def fRCvTimes : KCode := (.seq (.reg fRCvTimes_r0) (.seq (.reg fRCvTimes_r1) (.seq (.seq (.reg fRCvTimes_r2) (.block 0 (.loop fRCvTimes_l2))) (.keep [6, 7] (.seq (.reg fRCvTimes_r8) .ret)))))
@[reducible] def fRCvTimes_rs : List IRes := [.cell 6 (some 51)]
theorem fRCvTimes_low : lowFunc Try.prog 29 [] [] = some ⟨fRCvTimes.bare, fRCvTimes_rs, 32⟩ := by kernel_rfl

@[reducible] def fRCvSame_r0 : List (DOper × List Nat) := [
  o1 2 (.box 57 (.t 0)) [0],
  o1 3 (.box 57 (.t 1)) [1],
  o1 4 (.mv (.k (.bool false))) [4]]
@[reducible] def fRCvSame_r1 : List (DOper × List Nat) := [
  o1 5 (.fieldAddr 0 (.t 2)) [],
  o2 6 1 (.load (some 17) (.t 5)) [5],
  o2 7 2 (.fieldAddr 34 (.t 3)) [],
  o2 8 3 (.load (some 17) (.t 7)) [7],
  o2 10 5 (.fieldAddr 0 (.t 3)) [],
  o2 11 6 (.load (some 17) (.t 10)) [10],
  o2 12 7 (.fieldAddr 34 (.t 2)) [],
  o2 13 8 (.load (some 17) (.t 12)) [12],
  (⟨⟨(some 9), none, .call 75 [(.t 6), (.t 8)]⟩, 4, [8, 6]⟩, [6, 8]),
  o2 14 9 (.call 75 [(.t 11), (.t 13)]) [11, 13],
  o2 15 10 (.eqA false [.i64, .i64, .i64, .i64, .i64, .i64, .i64, .i64, .i64, .i64, .i64, .i64, .i64, .i64, .i64, .i64, .i64] (.t 9) (.t 14)) [9, 14],
  o2 16 11 (.mv (.t 15)) [15],
  (⟨⟨(some 17), (some (16, true)), .fieldAddr 17 (.t 2)⟩, 12, []⟩, []),
  (⟨⟨(some 18), (some (16, true)), .load (some 17) (.t 17)⟩, 13, []⟩, [17]),
  (⟨⟨(some 19), (some (16, true)), .fieldAddr 34 (.t 3)⟩, 14, []⟩, []),
  (⟨⟨(some 20), (some (16, true)), .load (some 17) (.t 19)⟩, 15, []⟩, [19]),
  (⟨⟨(some 22), (some (16, true)), .fieldAddr 17 (.t 3)⟩, 17, []⟩, [3]),
  (⟨⟨(some 23), (some (16, true)), .load (some 17) (.t 22)⟩, 18, []⟩, [22]),
  (⟨⟨(some 24), (some (16, true)), .fieldAddr 34 (.t 2)⟩, 19, []⟩, [2]),
  (⟨⟨(some 25), (some (16, true)), .load (some 17) (.t 24)⟩, 20, []⟩, [24]),
  (⟨⟨(some 21), (some (16, true)), .call 75 [(.t 18), (.t 20)]⟩, 16, [20, 18]⟩, [18, 20]),
  (⟨⟨(some 26), (some (16, true)), .call 75 [(.t 23), (.t 25)]⟩, 21, []⟩, [23, 25]),
  (⟨⟨(some 27), (some (16, true)), .eqA false [.i64, .i64, .i64, .i64, .i64, .i64, .i64, .i64, .i64, .i64, .i64, .i64, .i64, .i64, .i64, .i64, .i64] (.t 21) (.t 26)⟩, 22, []⟩, [21, 26]),
  o2 28 23 (.pick (.t 16) (.t 27) (.k (.bool false))) [16, 27],
  o2 4 24 (.mv (.t 28)) [28]]
/-- bosun/bosunref07.Same -/
@[reducible] def fRCvSame : KCode := (.seq (.reg fRCvSame_r0) (.seq (.draw fRCvSame_r1) .ret))
@[reducible] def fRCvSame_rs : List IRes := [.tmp 4]
theorem fRCvSame_low : lowFunc Try.prog 37 [] [(1, [0, 1, 2, 3, 5, 6, 7, 8, 4, 9, 10, 11, 12, 13, 14, 15, 17, 18, 19, 20, 16, 21, 22, 23, 24])] = some ⟨fRCvSame.bare, fRCvSame_rs, 29⟩ := by kernel_rfl

@[reducible] def fRCvRoot_r0 : List (DOper × List Nat) := [
  o1 1 (.box 55 (.t 0)) [0],
  o1 2 (.alloc 55 [(.int .i64 0), (.int .i64 0), (.int .i64 0), (.int .i64 0), (.int .i64 0), (.int .i64 0), (.int .i64 0), (.int .i64 0), (.int .i64 0), (.int .i64 0), (.int .i64 0), (.int .i64 0), (.int .i64 0), (.int .i64 0), (.int .i64 0), (.int .i64 0), (.int .i64 0)]) []]
@[reducible] def fRCvRoot_r1 : List (DOper × List Nat) := [
  o1 5 (.load (some 17) (.t 1)) [],
  o1 6 (.build [(.int .u64 0), (.int .u64 0), (.int .u64 0), (.int .u64 0)] [(0, 1, (.k (.int .u64 18446744073709551614))), (1, 1, (.k (.int .u64 18446744073709551615))), (2, 1, (.k (.int .u64 18446744073709551615))), (3, 1, (.k (.int .u64 1152921504606846975)))]) [],
  o1 7 (.call 118 [(.t 5), (.t 6)]) [5, 6],
  o1 3 (.alloc 55 [(.int .i64 0), (.int .i64 0), (.int .i64 0), (.int .i64 0), (.int .i64 0), (.int .i64 0), (.int .i64 0), (.int .i64 0), (.int .i64 0), (.int .i64 0), (.int .i64 0), (.int .i64 0), (.int .i64 0), (.int .i64 0), (.int .i64 0), (.int .i64 0), (.int .i64 0)]) [],
  (⟨⟨none, none, .store 17 (.t 3) (.t 7)⟩, 0, []⟩, [7])]
@[reducible] def fRCvRoot_r2 : List (DOper × List Nat) := [
  o1 8 (.load (some 17) (.t 3)) [],
  o2 9 1 (.load (some 17) (.t 3)) [],
  o2 11 3 (.load (some 17) (.t 1)) [1],
  (⟨⟨(some 10), none, .call 75 [(.t 8), (.t 9)]⟩, 2, [3]⟩, [8, 9]),
  o2 12 4 (.eqA false [.i64, .i64, .i64, .i64, .i64, .i64, .i64, .i64, .i64, .i64, .i64, .i64, .i64, .i64, .i64, .i64, .i64] (.t 10) (.t 11)) [10, 11]]
@[reducible] def fRCvRoot_r3 : List (DOper × List Nat) := [
  o1 13 (.load (some 17) (.t 3)) [3],
  (⟨⟨none, none, .store 17 (.t 2) (.t 13)⟩, 0, []⟩, [13])]
@[reducible] def fRCvRoot_k0 : KCode := (.kill [12] (.seq (.reg fRCvRoot_r3) .ret))
@[reducible] def fRCvRoot_r4 : List (DOper × List Nat) := [
  o1 14 (.call 74 [(.k (.int .i64 2))]) [],
  o1 15 (.build [(.int .u64 0), (.int .u64 0), (.int .u64 0), (.int .u64 0)] [(0, 1, (.k (.int .u64 18446744073709551611))), (1, 1, (.k (.int .u64 18446744073709551615))), (2, 1, (.k (.int .u64 18446744073709551615))), (3, 1, (.k (.int .u64 2305843009213693951)))]) [],
  o1 16 (.call 118 [(.t 14), (.t 15)]) [14, 15],
  o1 4 (.alloc 55 [(.int .i64 0), (.int .i64 0), (.int .i64 0), (.int .i64 0), (.int .i64 0), (.int .i64 0), (.int .i64 0), (.int .i64 0), (.int .i64 0), (.int .i64 0), (.int .i64 0), (.int .i64 0), (.int .i64 0), (.int .i64 0), (.int .i64 0), (.int .i64 0), (.int .i64 0)]) [],
  (⟨⟨none, none, .store 17 (.t 4) (.t 16)⟩, 0, []⟩, [16])]
@[reducible] def fRCvRoot_r5 : List (DOper × List Nat) := [
  o1 17 (.load (some 17) (.t 3)) [3],
  o1 18 (.load (some 17) (.t 4)) [4],
  o1 19 (.call 75 [(.t 17), (.t 18)]) [17, 18],
  (⟨⟨none, none, .store 17 (.t 2) (.t 19)⟩, 0, []⟩, [19])]
/-- bosun/bosunref07.root -/
@[reducible] def fRCvRoot : KCode := (.seq (.reg fRCvRoot_r0) (.seq (.reg fRCvRoot_r1) (.seq (.seq (.draw fRCvRoot_r2) (.cond (.t 12) fRCvRoot_k0 (.kill [12] .skip))) (.keep [2, 3] (.seq (.reg fRCvRoot_r4) (.seq (.reg fRCvRoot_r5) .ret))))))
@[reducible] def fRCvRoot_rs : List IRes := [.cell 2 (some 17)]
theorem fRCvRoot_low : lowFunc Try.prog 79 [] [(2, [0, 1, 3, 2, 4])] = some ⟨fRCvRoot.bare, fRCvRoot_rs, 20⟩ := by kernel_rfl

@[reducible] def fRCvDecode_r0 : List (DOper × List Nat) := [
  o1 1 (.box 23 (.t 0)) [0],
  o1 2 (.alloc 57 [(.int .i64 0), (.int .i64 0), (.int .i64 0), (.int .i64 0), (.int .i64 0), (.int .i64 0), (.int .i64 0), (.int .i64 0), (.int .i64 0), (.int .i64 0), (.int .i64 0), (.int .i64 0), (.int .i64 0), (.int .i64 0), (.int .i64 0), (.int .i64 0), (.int .i64 0), (.int .i64 0), (.int .i64 0), (.int .i64 0), (.int .i64 0), (.int .i64 0), (.int .i64 0), (.int .i64 0), (.int .i64 0), (.int .i64 0), (.int .i64 0), (.int .i64 0), (.int .i64 0), (.int .i64 0), (.int .i64 0), (.int .i64 0), (.int .i64 0), (.int .i64 0), (.int .i64 0), (.int .i64 0), (.int .i64 0), (.int .i64 0), (.int .i64 0), (.int .i64 0), (.int .i64 0), (.int .i64 0), (.int .i64 0), (.int .i64 0), (.int .i64 0), (.int .i64 0), (.int .i64 0), (.int .i64 0), (.int .i64 0), (.int .i64 0), (.int .i64 0)]) [],
  o1 3 (.mv (.k (.bool false))) [3]]
@[reducible] def fRCvDecode_r1 : List (DOper × List Nat) := [
  o1 11 (.load (some 32) (.t 1)) [1],
  o1 12 (.call 71 [(.t 11)]) [11],
  o1 10 (.mv (.t 12)) [12],
  o1 13 (.extract 0 (.t 10)) [],
  o1 14 (.extract 1 (.t 10)) [10],
  o1 4 (.alloc 55 [(.int .i64 0), (.int .i64 0), (.int .i64 0), (.int .i64 0), (.int .i64 0), (.int .i64 0), (.int .i64 0), (.int .i64 0), (.int .i64 0), (.int .i64 0), (.int .i64 0), (.int .i64 0), (.int .i64 0), (.int .i64 0), (.int .i64 0), (.int .i64 0), (.int .i64 0)]) [],
  (⟨⟨none, none, .store 17 (.t 4) (.t 13)⟩, 0, []⟩, [13]),
  o1 5 (.mv (.t 14)) [14]]
@[reducible] def fRCvDecode_r2 : List (DOper × List Nat) := [
  o1 15 (.load (some 17) (.t 4)) [],
  (⟨⟨(some 16), none, .call 73 []⟩, 1, [0]⟩, []),
  o2 17 2 (.call 72 [(.t 15), (.t 16)]) [15, 16],
  o2 18 3 (.un .not (.t 17)) [17]]
@[reducible] def fRCvDecode_r3 : List (DOper × List Nat) := [
  o1 19 (.build [(.int .i64 0), (.int .i64 0), (.int .i64 0), (.int .i64 0), (.int .i64 0), (.int .i64 0), (.int .i64 0), (.int .i64 0), (.int .i64 0), (.int .i64 0), (.int .i64 0), (.int .i64 0), (.int .i64 0), (.int .i64 0), (.int .i64 0), (.int .i64 0), (.int .i64 0), (.int .i64 0), (.int .i64 0), (.int .i64 0), (.int .i64 0), (.int .i64 0), (.int .i64 0), (.int .i64 0), (.int .i64 0), (.int .i64 0), (.int .i64 0), (.int .i64 0), (.int .i64 0), (.int .i64 0), (.int .i64 0), (.int .i64 0), (.int .i64 0), (.int .i64 0), (.int .i64 0), (.int .i64 0), (.int .i64 0), (.int .i64 0), (.int .i64 0), (.int .i64 0), (.int .i64 0), (.int .i64 0), (.int .i64 0), (.int .i64 0), (.int .i64 0), (.int .i64 0), (.int .i64 0), (.int .i64 0), (.int .i64 0), (.int .i64 0), (.int .i64 0)] []) [],
  (⟨⟨none, none, .store 51 (.t 2) (.t 19)⟩, 0, []⟩, [19]),
  o1 3 (.mv (.k (.bool false))) []]
@[reducible] def fRCvDecode_k0 : KCode := (.keep [2] (.seq (.reg fRCvDecode_r3) .ret))
@[reducible] def fRCvDecode_r4 : List (DOper × List Nat) := [
  o1 20 (.call 74 [(.k (.int .i64 1))]) [],
  o1 6 (.alloc 55 [(.int .i64 0), (.int .i64 0), (.int .i64 0), (.int .i64 0), (.int .i64 0), (.int .i64 0), (.int .i64 0), (.int .i64 0), (.int .i64 0), (.int .i64 0), (.int .i64 0), (.int .i64 0), (.int .i64 0), (.int .i64 0), (.int .i64 0), (.int .i64 0), (.int .i64 0)]) [],
  (⟨⟨none, none, .store 17 (.t 6) (.t 20)⟩, 0, []⟩, [20])]
@[reducible] def fRCvDecode_r5 : List (DOper × List Nat) := [
  o1 21 (.load (some 17) (.t 4)) [],
  o1 22 (.load (some 17) (.t 4)) [],
  o1 23 (.call 75 [(.t 21), (.t 22)]) [21, 22],
  o1 7 (.alloc 55 [(.int .i64 0), (.int .i64 0), (.int .i64 0), (.int .i64 0), (.int .i64 0), (.int .i64 0), (.int .i64 0), (.int .i64 0), (.int .i64 0), (.int .i64 0), (.int .i64 0), (.int .i64 0), (.int .i64 0), (.int .i64 0), (.int .i64 0), (.int .i64 0), (.int .i64 0)]) [],
  (⟨⟨none, none, .store 17 (.t 7) (.t 23)⟩, 0, []⟩, [23])]
@[reducible] def fRCvDecode_r6 : List (DOper × List Nat) := [
  o1 24 (.load (some 17) (.t 7)) [],
  o2 25 1 (.load (some 17) (.t 6)) [],
  o2 26 2 (.callP 76 [(.t 24), (.t 25)]) [24, 25],
  o2 27 3 (.load (some 17) (.t 6)) [],
  o2 28 4 (.callP 30 []) [],
  o2 29 5 (.load (some 17) (.t 7)) [7],
  o2 30 6 (.callP 75 [(.t 28), (.t 29)]) [28, 29],
  o2 31 7 (.callP 78 [(.t 27), (.t 30)]) [27, 30],
  o2 32 8 (.callP 77 [(.t 31)]) [31],
  o2 33 9 (.callP 75 [(.t 26), (.t 32)]) [26, 32],
  (⟨⟨(some 8), none, .alloc 55 [(.int .i64 0), (.int .i64 0), (.int .i64 0), (.int .i64 0), (.int .i64 0), (.int .i64 0), (.int .i64 0), (.int .i64 0), (.int .i64 0), (.int .i64 0), (.int .i64 0), (.int .i64 0), (.int .i64 0), (.int .i64 0), (.int .i64 0), (.int .i64 0), (.int .i64 0)]⟩, 10, [5, 3, 1, 0]⟩, []),
  (⟨⟨none, none, .store 17 (.t 8) (.t 33)⟩, 11, []⟩, [33])]
@[reducible] def fRCvDecode_r7 : List (DOper × List Nat) := [
  o1 34 (.load (some 17) (.t 8)) [],
  o1 35 (.call 79 [(.t 34)]) [34],
  o1 9 (.alloc 55 [(.int .i64 0), (.int .i64 0), (.int .i64 0), (.int .i64 0), (.int .i64 0), (.int .i64 0), (.int .i64 0), (.int .i64 0), (.int .i64 0), (.int .i64 0), (.int .i64 0), (.int .i64 0), (.int .i64 0), (.int .i64 0), (.int .i64 0), (.int .i64 0), (.int .i64 0)]) [],
  (⟨⟨none, none, .store 17 (.t 9) (.t 35)⟩, 0, []⟩, [35])]
@[reducible] def fRCvDecode_r8 : List (DOper × List Nat) := [
  o1 36 (.load (some 17) (.t 9)) [],
  o2 37 1 (.load (some 17) (.t 9)) [],
  o2 39 3 (.load (some 17) (.t 8)) [8],
  (⟨⟨(some 38), none, .call 75 [(.t 36), (.t 37)]⟩, 2, [3]⟩, [36, 37]),
  o2 40 4 (.eqA true [.i64, .i64, .i64, .i64, .i64, .i64, .i64, .i64, .i64, .i64, .i64, .i64, .i64, .i64, .i64, .i64, .i64] (.t 38) (.t 39)) [38, 39],
  o2 41 5 (.mv (.t 40)) [40],
  (⟨⟨(some 42), (some (41, false)), .mv (.t 5)⟩, 6, []⟩, []),
  (⟨⟨(some 43), (some (41, false)), .mv (.t 42)⟩, 7, []⟩, [42]),
  (⟨⟨(some 44), (some (43, true)), .load (some 17) (.t 9)⟩, 8, []⟩, []),
  (⟨⟨(some 45), (some (43, true)), .call 74 [(.k (.int .i64 0))]⟩, 9, [8]⟩, []),
  (⟨⟨(some 46), (some (43, true)), .eqA false [.i64, .i64, .i64, .i64, .i64, .i64, .i64, .i64, .i64, .i64, .i64, .i64, .i64, .i64, .i64, .i64, .i64] (.t 44) (.t 45)⟩, 10, []⟩, [44, 45]),
  (⟨⟨(some 47), (some (41, false)), .pick (.t 43) (.t 46) (.k (.bool false))⟩, 11, []⟩, [43, 46]),
  o2 48 12 (.pick (.t 41) (.k (.bool true)) (.t 47)) [41, 47]]
@[reducible] def fRCvDecode_r9 : List (DOper × List Nat) := [
  o1 49 (.build [(.int .i64 0), (.int .i64 0), (.int .i64 0), (.int .i64 0), (.int .i64 0), (.int .i64 0), (.int .i64 0), (.int .i64 0), (.int .i64 0), (.int .i64 0), (.int .i64 0), (.int .i64 0), (.int .i64 0), (.int .i64 0), (.int .i64 0), (.int .i64 0), (.int .i64 0), (.int .i64 0), (.int .i64 0), (.int .i64 0), (.int .i64 0), (.int .i64 0), (.int .i64 0), (.int .i64 0), (.int .i64 0), (.int .i64 0), (.int .i64 0), (.int .i64 0), (.int .i64 0), (.int .i64 0), (.int .i64 0), (.int .i64 0), (.int .i64 0), (.int .i64 0), (.int .i64 0), (.int .i64 0), (.int .i64 0), (.int .i64 0), (.int .i64 0), (.int .i64 0), (.int .i64 0), (.int .i64 0), (.int .i64 0), (.int .i64 0), (.int .i64 0), (.int .i64 0), (.int .i64 0), (.int .i64 0), (.int .i64 0), (.int .i64 0), (.int .i64 0)] []) [],
  (⟨⟨none, none, .store 51 (.t 2) (.t 49)⟩, 0, []⟩, [49]),
  o1 3 (.mv (.k (.bool false))) []]
@[reducible] def fRCvDecode_k1 : KCode := (.keep [2] (.seq (.reg fRCvDecode_r9) .ret))
@[reducible] def fRCvDecode_r10 : List (DOper × List Nat) := [
  o1 50 (.idxA 17 1 (.t 9) (.k (.int .i64 0))) [],
  o1 51 (.load none (.t 50)) [50],
  o1 52 (.bin false .rem (.t 51) (.k (.int .i64 2))) [51],
  o1 53 (.bin false .eql (.t 52) (.k (.int .i64 1))) [52],
  o1 54 (.mv (.t 5)) [5],
  o1 55 (.bin true .neq (.t 53) (.t 54)) [53, 54]]
@[reducible] def fRCvDecode_r11 : List (DOper × List Nat) := [
  o1 56 (.load (some 17) (.t 9)) [],
  o1 57 (.call 80 [(.t 56)]) [56],
  (⟨⟨none, none, .store 17 (.t 9) (.t 57)⟩, 0, []⟩, [57])]
@[reducible] def fRCvDecode_k2 : KCode := (.kill [55] (.reg fRCvDecode_r11))
@[reducible] def fRCvDecode_r12 : List (DOper × List Nat) := [
  o1 58 (.load (some 17) (.t 9)) [9],
  o1 59 (.load (some 17) (.t 4)) [4],
  o1 60 (.load (some 17) (.t 6)) [6],
  o1 61 (.build [(.int .i64 0), (.int .i64 0), (.int .i64 0), (.int .i64 0), (.int .i64 0), (.int .i64 0), (.int .i64 0), (.int .i64 0), (.int .i64 0), (.int .i64 0), (.int .i64 0), (.int .i64 0), (.int .i64 0), (.int .i64 0), (.int .i64 0), (.int .i64 0), (.int .i64 0), (.int .i64 0), (.int .i64 0), (.int .i64 0), (.int .i64 0), (.int .i64 0), (.int .i64 0), (.int .i64 0), (.int .i64 0), (.int .i64 0), (.int .i64 0), (.int .i64 0), (.int .i64 0), (.int .i64 0), (.int .i64 0), (.int .i64 0), (.int .i64 0), (.int .i64 0), (.int .i64 0), (.int .i64 0), (.int .i64 0), (.int .i64 0), (.int .i64 0), (.int .i64 0), (.int .i64 0), (.int .i64 0), (.int .i64 0), (.int .i64 0), (.int .i64 0), (.int .i64 0), (.int .i64 0), (.int .i64 0), (.int .i64 0), (.int .i64 0), (.int .i64 0)] [(0, 17, (.t 58)), (17, 17, (.t 59)), (34, 17, (.t 60))]) [58, 59, 60],
  (⟨⟨none, none, .store 51 (.t 2) (.t 61)⟩, 0, []⟩, [61]),
  o1 3 (.mv (.k (.bool true))) []]
/-- bosun/bosunref07.Decode -/
@[reducible] def fRCvDecode : KCode := (.seq (.reg fRCvDecode_r0) (.seq (.reg fRCvDecode_r1) (.seq (.seq (.draw fRCvDecode_r2) (.cond (.t 18) fRCvDecode_k0 (.kill [18] .skip))) (.keep [2, 4, 5] (.seq (.reg fRCvDecode_r4) (.seq (.reg fRCvDecode_r5) (.seq (.draw fRCvDecode_r6) (.seq (.reg fRCvDecode_r7) (.seq (.seq (.draw fRCvDecode_r8) (.cond (.t 48) fRCvDecode_k1 (.kill [48] .skip))) (.keep [2, 4, 5, 6, 9] (.seq (.seq (.reg fRCvDecode_r10) (.cond (.t 55) fRCvDecode_k2 (.kill [55] .skip))) (.keep [2, 4, 6, 9] (.seq (.reg fRCvDecode_r12) .ret)))))))))))))
@[reducible] def fRCvDecode_rs : List IRes := [.cell 2 (some 51), .tmp 3]
theorem fRCvDecode_low : lowFunc Try.prog 25 [(6, 2), (6, 4), (6, 6), (6, 7), (6, 8), (6, 9)] [(8, [0, 1, 3, 2, 4, 5, 6, 7, 8, 9, 10, 11, 12])] = some ⟨fRCvDecode.bare, fRCvDecode_rs, 62⟩ := by kernel_rfl

@[reducible] def fRCvBase_r0 : List (DOper × List Nat) := [
  o1 0 (.alloc 57 [(.int .i64 0), (.int .i64 0), (.int .i64 0), (.int .i64 0), (.int .i64 0), (.int .i64 0), (.int .i64 0), (.int .i64 0), (.int .i64 0), (.int .i64 0), (.int .i64 0), (.int .i64 0), (.int .i64 0), (.int .i64 0), (.int .i64 0), (.int .i64 0), (.int .i64 0), (.int .i64 0), (.int .i64 0), (.int .i64 0), (.int .i64 0), (.int .i64 0), (.int .i64 0), (.int .i64 0), (.int .i64 0), (.int .i64 0), (.int .i64 0), (.int .i64 0), (.int .i64 0), (.int .i64 0), (.int .i64 0), (.int .i64 0), (.int .i64 0), (.int .i64 0), (.int .i64 0), (.int .i64 0), (.int .i64 0), (.int .i64 0), (.int .i64 0), (.int .i64 0), (.int .i64 0), (.int .i64 0), (.int .i64 0), (.int .i64 0), (.int .i64 0), (.int .i64 0), (.int .i64 0), (.int .i64 0), (.int .i64 0), (.int .i64 0), (.int .i64 0)]) []]
@[reducible] def fRCvBase_r1 : List (DOper × List Nat) := [
  o1 1 (.alloc 23 [(.int .u8 0), (.int .u8 0), (.int .u8 0), (.int .u8 0), (.int .u8 0), (.int .u8 0), (.int .u8 0), (.int .u8 0), (.int .u8 0), (.int .u8 0), (.int .u8 0), (.int .u8 0), (.int .u8 0), (.int .u8 0), (.int .u8 0), (.int .u8 0), (.int .u8 0), (.int .u8 0), (.int .u8 0), (.int .u8 0), (.int .u8 0), (.int .u8 0), (.int .u8 0), (.int .u8 0), (.int .u8 0), (.int .u8 0), (.int .u8 0), (.int .u8 0), (.int .u8 0), (.int .u8 0), (.int .u8 0), (.int .u8 0)]) []]
@[reducible] def fRCvBase_r2 : List (DOper × List Nat) := [
  o1 2 (.mv (.k (.int .i64 0))) []]
@[reducible] def fRCvBase_r3 : List (DOper × List Nat) := [
  o1 5 (.mv (.t 2)) [],
  o1 6 (.bin false .lss (.t 5) (.k (.int .i64 32))) [5]]
@[reducible] def fRCvBase_k0 : KCode := (.kill [2, 6] (.exit 0))
@[reducible] def fRCvBase_r4 : List (DOper × List Nat) := [
  o1 9 (.mv (.t 2)) [],
  o1 10 (.idxA 32 1 (.t 1) (.t 9)) [9],
  (⟨⟨none, none, .store 1 (.t 10) (.k (.int .u8 102))⟩, 0, []⟩, [10])]
@[reducible] def fRCvBase_r5 : List (DOper × List Nat) := [
  o1 7 (.mv (.t 2)) [2],
  o1 8 (.bin false .add (.t 7) (.k (.int .i64 1))) [7],
  o1 2 (.mv (.t 8)) [8]]
/-- live: [0, 1, 2] -/
@[reducible] def fRCvBase_l1 : KCode := (.seq (.seq (.reg fRCvBase_r3) (.cond (.t 6) (.kill [6] .skip) fRCvBase_k0)) (.kill [5, 6] (.seq (.block 1 (.reg fRCvBase_r4)) (.kill [9, 10] (.reg fRCvBase_r5)))))
@[reducible] def fRCvBase_r6 : List (DOper × List Nat) := [
  o1 11 (.idxA 32 1 (.t 1) (.k (.int .i64 0))) [],
  (⟨⟨none, none, .store 1 (.t 11) (.k (.int .u8 88))⟩, 0, []⟩, [11])]
@[reducible] def fRCvBase_r7 : List (DOper × List Nat) := [
  o1 13 (.load (some 32) (.t 1)) [1],
  o1 14 (.call 25 [(.t 13)]) [13],
  o1 12 (.mv (.t 14)) [14],
  o1 15 (.extract 0 (.t 12)) [],
  o1 16 (.extract 1 (.t 12)) [12],
  o1 3 (.alloc 57 [(.int .i64 0), (.int .i64 0), (.int .i64 0), (.int .i64 0), (.int .i64 0), (.int .i64 0), (.int .i64 0), (.int .i64 0), (.int .i64 0), (.int .i64 0), (.int .i64 0), (.int .i64 0), (.int .i64 0), (.int .i64 0), (.int .i64 0), (.int .i64 0), (.int .i64 0), (.int .i64 0), (.int .i64 0), (.int .i64 0), (.int .i64 0), (.int .i64 0), (.int .i64 0), (.int .i64 0), (.int .i64 0), (.int .i64 0), (.int .i64 0), (.int .i64 0), (.int .i64 0), (.int .i64 0), (.int .i64 0), (.int .i64 0), (.int .i64 0), (.int .i64 0), (.int .i64 0), (.int .i64 0), (.int .i64 0), (.int .i64 0), (.int .i64 0), (.int .i64 0), (.int .i64 0), (.int .i64 0), (.int .i64 0), (.int .i64 0), (.int .i64 0), (.int .i64 0), (.int .i64 0), (.int .i64 0), (.int .i64 0), (.int .i64 0), (.int .i64 0)]) [],
  (⟨⟨none, none, .store 51 (.t 3) (.t 15)⟩, 0, []⟩, [15]),
  o1 4 (.mv (.t 16)) [4, 16]]
@[reducible] def fRCvBase_r8 : List (DOper × List Nat) := [
  o1 17 (.load (some 51) (.t 3)) [3],
  (⟨⟨none, none, .store 51 (.t 0) (.t 17)⟩, 0, []⟩, [17])]
/-- bosun/bosunref07.Base -/
@[reducible] def fRCvBase : KCode := (.seq (.reg fRCvBase_r0) (.seq (.reg fRCvBase_r1) (.seq (.seq (.reg fRCvBase_r2) (.block 0 (.loop fRCvBase_l1))) (.keep [0, 1] (.seq (.reg fRCvBase_r6) (.seq (.reg fRCvBase_r7) (.seq (.reg fRCvBase_r8) .ret)))))))
@[reducible] def fRCvBase_rs : List IRes := [.cell 0 (some 51)]
theorem fRCvBase_low : lowFunc Try.prog 89 [] [] = some ⟨fRCvBase.bare, fRCvBase_rs, 18⟩ := by kernel_rfl

end Go.Proofs.Ythgibibeoapfbaa
