/-
  Codes of functions.
-/
import Derived.Test.YtjehncilahjmdaadF4
import Derived.Test.YtjehncilahjmdaaRows
set_option linter.unusedSimpArgs false
set_option linter.unnecessarySimpa false
set_option linter.unusedVariables false
set_option linter.unusedSectionVars false
namespace Go.Proofs.Ytjehncilahjmdaa
open Go.Fw
@[reducible] def fCrcTable_r0 : List (DOper × List Nat) := [
  o1 0 (.alloc 132 [(.int .u32 0), (.int .u32 0), (.int .u32 0), (.int .u32 0), (.int .u32 0), (.int .u32 0), (.int .u32 0), (.int .u32 0), (.int .u32 0), (.int .u32 0), (.int .u32 0), (.int .u32 0), (.int .u32 0), (.int .u32 0), (.int .u32 0), (.int .u32 0), (.int .u32 0), (.int .u32 0), (.int .u32 0), (.int .u32 0), (.int .u32 0), (.int .u32 0), (.int .u32 0), (.int .u32 0), (.int .u32 0), (.int .u32 0), (.int .u32 0), (.int .u32 0), (.int .u32 0), (.int .u32 0), (.int .u32 0), (.int .u32 0), (.int .u32 0), (.int .u32 0), (.int .u32 0), (.int .u32 0), (.int .u32 0), (.int .u32 0), (.int .u32 0), (.int .u32 0), (.int .u32 0), (.int .u32 0), (.int .u32 0), (.int .u32 0), (.int .u32 0), (.int .u32 0), (.int .u32 0), (.int .u32 0), (.int .u32 0), (.int .u32 0), (.int .u32 0), (.int .u32 0), (.int .u32 0), (.int .u32 0), (.int .u32 0), (.int .u32 0), (.int .u32 0), (.int .u32 0), (.int .u32 0), (.int .u32 0), (.int .u32 0), (.int .u32 0), (.int .u32 0), (.int .u32 0), (.int .u32 0), (.int .u32 0), (.int .u32 0), (.int .u32 0), (.int .u32 0), (.int .u32 0), (.int .u32 0), (.int .u32 0), (.int .u32 0), (.int .u32 0), (.int .u32 0), (.int .u32 0), (.int .u32 0), (.int .u32 0), (.int .u32 0), (.int .u32 0), (.int .u32 0), (.int .u32 0), (.int .u32 0), (.int .u32 0), (.int .u32 0), (.int .u32 0), (.int .u32 0), (.int .u32 0), (.int .u32 0), (.int .u32 0), (.int .u32 0), (.int .u32 0), (.int .u32 0), (.int .u32 0), (.int .u32 0), (.int .u32 0), (.int .u32 0), (.int .u32 0), (.int .u32 0), (.int .u32 0), (.int .u32 0), (.int .u32 0), (.int .u32 0), (.int .u32 0), (.int .u32 0), (.int .u32 0), (.int .u32 0), (.int .u32 0), (.int .u32 0), (.int .u32 0), (.int .u32 0), (.int .u32 0), (.int .u32 0), (.int .u32 0), (.int .u32 0), (.int .u32 0), (.int .u32 0), (.int .u32 0), (.int .u32 0), (.int .u32 0), (.int .u32 0), (.int .u32 0), (.int .u32 0), (.int .u32 0), (.int .u32 0), (.int .u32 0), (.int .u32 0), (.int .u32 0), (.int .u32 0), (.int .u32 0), (.int .u32 0), (.int .u32 0), (.int .u32 0), (.int .u32 0), (.int .u32 0), (.int .u32 0), (.int .u32 0), (.int .u32 0), (.int .u32 0), (.int .u32 0), (.int .u32 0), (.int .u32 0), (.int .u32 0), (.int .u32 0), (.int .u32 0), (.int .u32 0), (.int .u32 0), (.int .u32 0), (.int .u32 0), (.int .u32 0), (.int .u32 0), (.int .u32 0), (.int .u32 0), (.int .u32 0), (.int .u32 0), (.int .u32 0), (.int .u32 0), (.int .u32 0), (.int .u32 0), (.int .u32 0), (.int .u32 0), (.int .u32 0), (.int .u32 0), (.int .u32 0), (.int .u32 0), (.int .u32 0), (.int .u32 0), (.int .u32 0), (.int .u32 0), (.int .u32 0), (.int .u32 0), (.int .u32 0), (.int .u32 0), (.int .u32 0), (.int .u32 0), (.int .u32 0), (.int .u32 0), (.int .u32 0), (.int .u32 0), (.int .u32 0), (.int .u32 0), (.int .u32 0), (.int .u32 0), (.int .u32 0), (.int .u32 0), (.int .u32 0), (.int .u32 0), (.int .u32 0), (.int .u32 0), (.int .u32 0), (.int .u32 0), (.int .u32 0), (.int .u32 0), (.int .u32 0), (.int .u32 0), (.int .u32 0), (.int .u32 0), (.int .u32 0), (.int .u32 0), (.int .u32 0), (.int .u32 0), (.int .u32 0), (.int .u32 0), (.int .u32 0), (.int .u32 0), (.int .u32 0), (.int .u32 0), (.int .u32 0), (.int .u32 0), (.int .u32 0), (.int .u32 0), (.int .u32 0), (.int .u32 0), (.int .u32 0), (.int .u32 0), (.int .u32 0), (.int .u32 0), (.int .u32 0), (.int .u32 0), (.int .u32 0), (.int .u32 0), (.int .u32 0), (.int .u32 0), (.int .u32 0), (.int .u32 0), (.int .u32 0), (.int .u32 0), (.int .u32 0), (.int .u32 0), (.int .u32 0), (.int .u32 0), (.int .u32 0), (.int .u32 0), (.int .u32 0), (.int .u32 0), (.int .u32 0), (.int .u32 0), (.int .u32 0), (.int .u32 0), (.int .u32 0), (.int .u32 0), (.int .u32 0), (.int .u32 0), (.int .u32 0), (.int .u32 0), (.int .u32 0), (.int .u32 0), (.int .u32 0), (.int .u32 0), (.int .u32 0), (.int .u32 0), (.int .u32 0), (.int .u32 0), (.int .u32 0), (.int .u32 0), (.int .u32 0)]) []]
@[reducible] def fCrcTable_r1 : List (DOper × List Nat) := [
  o1 1 (.alloc 132 [(.int .u32 0), (.int .u32 0), (.int .u32 0), (.int .u32 0), (.int .u32 0), (.int .u32 0), (.int .u32 0), (.int .u32 0), (.int .u32 0), (.int .u32 0), (.int .u32 0), (.int .u32 0), (.int .u32 0), (.int .u32 0), (.int .u32 0), (.int .u32 0), (.int .u32 0), (.int .u32 0), (.int .u32 0), (.int .u32 0), (.int .u32 0), (.int .u32 0), (.int .u32 0), (.int .u32 0), (.int .u32 0), (.int .u32 0), (.int .u32 0), (.int .u32 0), (.int .u32 0), (.int .u32 0), (.int .u32 0), (.int .u32 0), (.int .u32 0), (.int .u32 0), (.int .u32 0), (.int .u32 0), (.int .u32 0), (.int .u32 0), (.int .u32 0), (.int .u32 0), (.int .u32 0), (.int .u32 0), (.int .u32 0), (.int .u32 0), (.int .u32 0), (.int .u32 0), (.int .u32 0), (.int .u32 0), (.int .u32 0), (.int .u32 0), (.int .u32 0), (.int .u32 0), (.int .u32 0), (.int .u32 0), (.int .u32 0), (.int .u32 0), (.int .u32 0), (.int .u32 0), (.int .u32 0), (.int .u32 0), (.int .u32 0), (.int .u32 0), (.int .u32 0), (.int .u32 0), (.int .u32 0), (.int .u32 0), (.int .u32 0), (.int .u32 0), (.int .u32 0), (.int .u32 0), (.int .u32 0), (.int .u32 0), (.int .u32 0), (.int .u32 0), (.int .u32 0), (.int .u32 0), (.int .u32 0), (.int .u32 0), (.int .u32 0), (.int .u32 0), (.int .u32 0), (.int .u32 0), (.int .u32 0), (.int .u32 0), (.int .u32 0), (.int .u32 0), (.int .u32 0), (.int .u32 0), (.int .u32 0), (.int .u32 0), (.int .u32 0), (.int .u32 0), (.int .u32 0), (.int .u32 0), (.int .u32 0), (.int .u32 0), (.int .u32 0), (.int .u32 0), (.int .u32 0), (.int .u32 0), (.int .u32 0), (.int .u32 0), (.int .u32 0), (.int .u32 0), (.int .u32 0), (.int .u32 0), (.int .u32 0), (.int .u32 0), (.int .u32 0), (.int .u32 0), (.int .u32 0), (.int .u32 0), (.int .u32 0), (.int .u32 0), (.int .u32 0), (.int .u32 0), (.int .u32 0), (.int .u32 0), (.int .u32 0), (.int .u32 0), (.int .u32 0), (.int .u32 0), (.int .u32 0), (.int .u32 0), (.int .u32 0), (.int .u32 0), (.int .u32 0), (.int .u32 0), (.int .u32 0), (.int .u32 0), (.int .u32 0), (.int .u32 0), (.int .u32 0), (.int .u32 0), (.int .u32 0), (.int .u32 0), (.int .u32 0), (.int .u32 0), (.int .u32 0), (.int .u32 0), (.int .u32 0), (.int .u32 0), (.int .u32 0), (.int .u32 0), (.int .u32 0), (.int .u32 0), (.int .u32 0), (.int .u32 0), (.int .u32 0), (.int .u32 0), (.int .u32 0), (.int .u32 0), (.int .u32 0), (.int .u32 0), (.int .u32 0), (.int .u32 0), (.int .u32 0), (.int .u32 0), (.int .u32 0), (.int .u32 0), (.int .u32 0), (.int .u32 0), (.int .u32 0), (.int .u32 0), (.int .u32 0), (.int .u32 0), (.int .u32 0), (.int .u32 0), (.int .u32 0), (.int .u32 0), (.int .u32 0), (.int .u32 0), (.int .u32 0), (.int .u32 0), (.int .u32 0), (.int .u32 0), (.int .u32 0), (.int .u32 0), (.int .u32 0), (.int .u32 0), (.int .u32 0), (.int .u32 0), (.int .u32 0), (.int .u32 0), (.int .u32 0), (.int .u32 0), (.int .u32 0), (.int .u32 0), (.int .u32 0), (.int .u32 0), (.int .u32 0), (.int .u32 0), (.int .u32 0), (.int .u32 0), (.int .u32 0), (.int .u32 0), (.int .u32 0), (.int .u32 0), (.int .u32 0), (.int .u32 0), (.int .u32 0), (.int .u32 0), (.int .u32 0), (.int .u32 0), (.int .u32 0), (.int .u32 0), (.int .u32 0), (.int .u32 0), (.int .u32 0), (.int .u32 0), (.int .u32 0), (.int .u32 0), (.int .u32 0), (.int .u32 0), (.int .u32 0), (.int .u32 0), (.int .u32 0), (.int .u32 0), (.int .u32 0), (.int .u32 0), (.int .u32 0), (.int .u32 0), (.int .u32 0), (.int .u32 0), (.int .u32 0), (.int .u32 0), (.int .u32 0), (.int .u32 0), (.int .u32 0), (.int .u32 0), (.int .u32 0), (.int .u32 0), (.int .u32 0), (.int .u32 0), (.int .u32 0), (.int .u32 0), (.int .u32 0), (.int .u32 0), (.int .u32 0), (.int .u32 0), (.int .u32 0), (.int .u32 0), (.int .u32 0), (.int .u32 0), (.int .u32 0), (.int .u32 0), (.int .u32 0), (.int .u32 0), (.int .u32 0), (.int .u32 0), (.int .u32 0), (.int .u32 0), (.int .u32 0), (.int .u32 0), (.int .u32 0), (.int .u32 0)]) []]
@[reducible] def fCrcTable_r2 : List (DOper × List Nat) := [
  o1 4 (.mv (.k (.int .i64 0))) []]
@[reducible] def fCrcTable_r3 : List (DOper × List Nat) := [
  o1 5 (.bin false .lss (.t 4) (.k (.int .i64 256))) []]
@[reducible] def fCrcTable_k0 : KCode := (.kill [4, 5] (.exit 0))
@[reducible] def fCrcTable_r4 : List (DOper × List Nat) := [
  o1 6 (.mv (.t 4)) [],
  o1 2 (.mv (.t 6)) [6]]
@[reducible] def fCrcTable_r5 : List (DOper × List Nat) := [
  o1 7 (.mv (.t 2)) [],
  o1 8 (.convI .u32 (.t 7)) [7],
  o1 3 (.mv (.t 8)) [8]]
@[reducible] def fCrcTable_r6 : List (DOper × List Nat) := [
  o1 9 (.mv (.k (.int .i64 0))) []]
@[reducible] def fCrcTable_r7 : List (DOper × List Nat) := [
  o1 10 (.bin false .lss (.t 9) (.k (.int .i64 8))) []]
@[reducible] def fCrcTable_k1 : KCode := (.kill [9, 10] (.exit 2))
@[reducible] def fCrcTable_r8 : List (DOper × List Nat) := [
  o1 11 (.mv (.t 3)) [],
  o1 12 (.bin false .and (.t 11) (.k (.int .u32 1))) [11],
  o1 13 (.bin false .eql (.t 12) (.k (.int .u32 1))) [12]]
@[reducible] def fCrcTable_r9 : List (DOper × List Nat) := [
  o1 14 (.mv (.t 3)) [3],
  o1 15 (.bin false .shr (.t 14) (.k (.int .u64 1))) [14],
  o1 16 (.bin false .xor (.t 15) (.k (.int .u32 3988292384))) [15],
  o1 3 (.mv (.t 16)) [16]]
@[reducible] def fCrcTable_r10 : List (DOper × List Nat) := [
  o1 17 (.mv (.t 3)) [3],
  o1 18 (.bin false .shr (.t 17) (.k (.int .u64 1))) [17],
  o1 3 (.mv (.t 18)) [18]]
@[reducible] def fCrcTable_k2 : KCode := (.kill [13] (.reg fCrcTable_r9))
@[reducible] def fCrcTable_k3 : KCode := (.kill [13] (.reg fCrcTable_r10))
@[reducible] def fCrcTable_r11 : List (DOper × List Nat) := [
  o1 19 (.bin false .add (.t 9) (.k (.int .i64 1))) [9],
  o1 9 (.mv (.t 19)) [19]]
/-- live: [0, 1, 2, 3, 4, 9] -/
@[reducible] def fCrcTable_l4 : KCode := (.seq (.reg fCrcTable_r7) (.seq (.cond (.t 10) (.kill [10] .skip) fCrcTable_k1) (.kill [10] (.seq (.block 3 (.seq (.reg fCrcTable_r8) (.cond (.t 13) fCrcTable_k2 fCrcTable_k3))) (.keep [0, 1, 2, 3, 4, 9] (.reg fCrcTable_r11))))))
@[reducible] def fCrcTable_r12 : List (DOper × List Nat) := [
  o1 20 (.mv (.t 2)) [2],
  o1 21 (.mv (.t 3)) [3],
  o1 22 (.idxA 256 1 (.t 1) (.t 20)) [20],
  (⟨⟨none, none, .store 1 (.t 22) (.t 21)⟩, 0, []⟩, [21, 22])]
@[reducible] def fCrcTable_r13 : List (DOper × List Nat) := [
  o1 23 (.bin false .add (.t 4) (.k (.int .i64 1))) [4],
  o1 4 (.mv (.t 23)) [23]]
/-- live: [0, 1, 4] -/
@[reducible] def fCrcTable_l5 : KCode := (.seq (.reg fCrcTable_r3) (.seq (.cond (.t 5) (.kill [5] .skip) fCrcTable_k0) (.kill [5] (.seq (.block 1 (.seq (.reg fCrcTable_r4) (.seq (.reg fCrcTable_r5) (.seq (.seq (.reg fCrcTable_r6) (.block 2 (.loop fCrcTable_l4))) (.keep [0, 1, 2, 3, 4] (.reg fCrcTable_r12)))))) (.keep [0, 1, 4] (.reg fCrcTable_r13))))))
@[reducible] def fCrcTable_r14 : List (DOper × List Nat) := [
  o1 24 (.load (some 256) (.t 1)) [1],
  (⟨⟨none, none, .store 256 (.t 0) (.t 24)⟩, 0, []⟩, [24])]
/-- bosun/crc.table -/
@[reducible] def fCrcTable : KCode := (.seq (.reg fCrcTable_r0) (.seq (.reg fCrcTable_r1) (.seq (.seq (.reg fCrcTable_r2) (.block 0 (.loop fCrcTable_l5))) (.keep [0, 1] (.seq (.reg fCrcTable_r14) .ret)))))
@[reducible] def fCrcTable_rs : List IRes := [.cell 0 (some 256)]
theorem fCrcTable_low : lowFunc Try.prog 88 [] [] = some ⟨fCrcTable.bare, fCrcTable_rs, 25⟩ := by kernel_rfl

@[reducible] def fCrcUpdate_r0 : List (DOper × List Nat) := [
  o1 4 (.mv (.k (.int .u32 0))) [4]]
@[reducible] def fCrcUpdate_r1 : List (DOper × List Nat) := [
  o1 9 (.call 88 []) [],
  o1 5 (.alloc 132 [(.int .u32 0), (.int .u32 0), (.int .u32 0), (.int .u32 0), (.int .u32 0), (.int .u32 0), (.int .u32 0), (.int .u32 0), (.int .u32 0), (.int .u32 0), (.int .u32 0), (.int .u32 0), (.int .u32 0), (.int .u32 0), (.int .u32 0), (.int .u32 0), (.int .u32 0), (.int .u32 0), (.int .u32 0), (.int .u32 0), (.int .u32 0), (.int .u32 0), (.int .u32 0), (.int .u32 0), (.int .u32 0), (.int .u32 0), (.int .u32 0), (.int .u32 0), (.int .u32 0), (.int .u32 0), (.int .u32 0), (.int .u32 0), (.int .u32 0), (.int .u32 0), (.int .u32 0), (.int .u32 0), (.int .u32 0), (.int .u32 0), (.int .u32 0), (.int .u32 0), (.int .u32 0), (.int .u32 0), (.int .u32 0), (.int .u32 0), (.int .u32 0), (.int .u32 0), (.int .u32 0), (.int .u32 0), (.int .u32 0), (.int .u32 0), (.int .u32 0), (.int .u32 0), (.int .u32 0), (.int .u32 0), (.int .u32 0), (.int .u32 0), (.int .u32 0), (.int .u32 0), (.int .u32 0), (.int .u32 0), (.int .u32 0), (.int .u32 0), (.int .u32 0), (.int .u32 0), (.int .u32 0), (.int .u32 0), (.int .u32 0), (.int .u32 0), (.int .u32 0), (.int .u32 0), (.int .u32 0), (.int .u32 0), (.int .u32 0), (.int .u32 0), (.int .u32 0), (.int .u32 0), (.int .u32 0), (.int .u32 0), (.int .u32 0), (.int .u32 0), (.int .u32 0), (.int .u32 0), (.int .u32 0), (.int .u32 0), (.int .u32 0), (.int .u32 0), (.int .u32 0), (.int .u32 0), (.int .u32 0), (.int .u32 0), (.int .u32 0), (.int .u32 0), (.int .u32 0), (.int .u32 0), (.int .u32 0), (.int .u32 0), (.int .u32 0), (.int .u32 0), (.int .u32 0), (.int .u32 0), (.int .u32 0), (.int .u32 0), (.int .u32 0), (.int .u32 0), (.int .u32 0), (.int .u32 0), (.int .u32 0), (.int .u32 0), (.int .u32 0), (.int .u32 0), (.int .u32 0), (.int .u32 0), (.int .u32 0), (.int .u32 0), (.int .u32 0), (.int .u32 0), (.int .u32 0), (.int .u32 0), (.int .u32 0), (.int .u32 0), (.int .u32 0), (.int .u32 0), (.int .u32 0), (.int .u32 0), (.int .u32 0), (.int .u32 0), (.int .u32 0), (.int .u32 0), (.int .u32 0), (.int .u32 0), (.int .u32 0), (.int .u32 0), (.int .u32 0), (.int .u32 0), (.int .u32 0), (.int .u32 0), (.int .u32 0), (.int .u32 0), (.int .u32 0), (.int .u32 0), (.int .u32 0), (.int .u32 0), (.int .u32 0), (.int .u32 0), (.int .u32 0), (.int .u32 0), (.int .u32 0), (.int .u32 0), (.int .u32 0), (.int .u32 0), (.int .u32 0), (.int .u32 0), (.int .u32 0), (.int .u32 0), (.int .u32 0), (.int .u32 0), (.int .u32 0), (.int .u32 0), (.int .u32 0), (.int .u32 0), (.int .u32 0), (.int .u32 0), (.int .u32 0), (.int .u32 0), (.int .u32 0), (.int .u32 0), (.int .u32 0), (.int .u32 0), (.int .u32 0), (.int .u32 0), (.int .u32 0), (.int .u32 0), (.int .u32 0), (.int .u32 0), (.int .u32 0), (.int .u32 0), (.int .u32 0), (.int .u32 0), (.int .u32 0), (.int .u32 0), (.int .u32 0), (.int .u32 0), (.int .u32 0), (.int .u32 0), (.int .u32 0), (.int .u32 0), (.int .u32 0), (.int .u32 0), (.int .u32 0), (.int .u32 0), (.int .u32 0), (.int .u32 0), (.int .u32 0), (.int .u32 0), (.int .u32 0), (.int .u32 0), (.int .u32 0), (.int .u32 0), (.int .u32 0), (.int .u32 0), (.int .u32 0), (.int .u32 0), (.int .u32 0), (.int .u32 0), (.int .u32 0), (.int .u32 0), (.int .u32 0), (.int .u32 0), (.int .u32 0), (.int .u32 0), (.int .u32 0), (.int .u32 0), (.int .u32 0), (.int .u32 0), (.int .u32 0), (.int .u32 0), (.int .u32 0), (.int .u32 0), (.int .u32 0), (.int .u32 0), (.int .u32 0), (.int .u32 0), (.int .u32 0), (.int .u32 0), (.int .u32 0), (.int .u32 0), (.int .u32 0), (.int .u32 0), (.int .u32 0), (.int .u32 0), (.int .u32 0), (.int .u32 0), (.int .u32 0), (.int .u32 0), (.int .u32 0), (.int .u32 0), (.int .u32 0), (.int .u32 0), (.int .u32 0), (.int .u32 0), (.int .u32 0), (.int .u32 0), (.int .u32 0), (.int .u32 0), (.int .u32 0), (.int .u32 0), (.int .u32 0), (.int .u32 0), (.int .u32 0), (.int .u32 0), (.int .u32 0), (.int .u32 0), (.int .u32 0), (.int .u32 0), (.int .u32 0), (.int .u32 0)]) [],
  (⟨⟨none, none, .store 256 (.t 5) (.t 9)⟩, 0, []⟩, [9])]
@[reducible] def fCrcUpdate_r2 : List (DOper × List Nat) := [
  o1 10 (.mv (.t 0)) [0],
  o1 11 (.un .xor (.t 10)) [10],
  o1 6 (.mv (.t 11)) [11]]
@[reducible] def fCrcUpdate_r3 : List (DOper × List Nat) := [
  o1 12 (.mv (.t 1)) [1],
  o1 13 (.len true (.t 12)) [],
  o1 14 (.mv (.k (.int .i64 0))) []]
@[reducible] def fCrcUpdate_r4 : List (DOper × List Nat) := [
  o1 15 (.bin false .lss (.t 14) (.t 13)) []]
@[reducible] def fCrcUpdate_r5 : List (DOper × List Nat) := [
  o1 16 (.idxS 1 (.t 12) (.t 14)) [],
  o1 17 (.load none (.t 16)) [16],
  o1 8 (.mv (.t 17)) [17]]
@[reducible] def fCrcUpdate_r6 : List (DOper × List Nat) := [
  o1 18 (.mv (.t 6)) [],
  o1 19 (.convI .u8 (.t 18)) [18],
  o1 20 (.mv (.t 8)) [8],
  o1 21 (.bin false .xor (.t 19) (.t 20)) [19, 20],
  o1 22 (.idxA 256 1 (.t 5) (.t 21)) [21],
  o1 23 (.load none (.t 22)) [22],
  o1 24 (.mv (.t 6)) [6],
  o1 25 (.bin false .shr (.t 24) (.k (.int .u64 8))) [24],
  o1 26 (.bin false .xor (.t 23) (.t 25)) [23, 25],
  o1 6 (.mv (.t 26)) [26]]
@[reducible] def fCrcUpdate_r7 : List (DOper × List Nat) := [
  o1 27 (.bin false .add (.t 14) (.k (.int .i64 1))) [14],
  o1 14 (.mv (.t 27)) [27]]
/-- live: [5, 6, 12, 13, 14] -/
@[reducible] def fCrcUpdate_l0 : KCode := (.seq (.reg fCrcUpdate_r4) (.seq (.cond (.t 15) (.kill [15] .skip) (.keep [6] (.exit 0))) (.kill [15] (.seq (.block 1 (.seq (.reg fCrcUpdate_r5) (.reg fCrcUpdate_r6))) (.keep [5, 6, 12, 13, 14] (.reg fCrcUpdate_r7))))))
@[reducible] def fCrcUpdate_r8 : List (DOper × List Nat) := [
  o1 28 (.mv (.t 6)) [6],
  o1 29 (.un .xor (.t 28)) [28],
  o1 4 (.mv (.t 29)) [29]]
/-- bosun/crc.Update -/
@[reducible] def fCrcUpdate : KCode := (.seq (.reg fCrcUpdate_r0) (.seq (.reg fCrcUpdate_r1) (.seq (.reg fCrcUpdate_r2) (.seq (.seq (.reg fCrcUpdate_r3) (.block 0 (.loop fCrcUpdate_l0))) (.keep [6] (.seq (.reg fCrcUpdate_r8) .ret))))))
@[reducible] def fCrcUpdate_rs : List IRes := [.tmp 4]
theorem fCrcUpdate_low : lowFunc Try.prog 79 [] [] = some ⟨fCrcUpdate.bare, fCrcUpdate_rs, 30⟩ := by kernel_rfl

@[reducible] def fCrcSum_r0 : List (DOper × List Nat) := [
  o1 2 (.mv (.k (.int .u32 0))) [2]]
@[reducible] def fCrcSum_r1 : List (DOper × List Nat) := [
  o1 3 (.mv (.k (.int .u32 0))) []]
@[reducible] def fCrcSum_r2 : List (DOper × List Nat) := [
  o1 6 (.mv (.t 0)) [0],
  o1 7 (.len true (.t 6)) [],
  o1 8 (.mv (.k (.int .i64 0))) []]
@[reducible] def fCrcSum_r3 : List (DOper × List Nat) := [
  o1 9 (.bin false .lss (.t 8) (.t 7)) []]
@[reducible] def fCrcSum_r4 : List (DOper × List Nat) := [
  o1 10 (.idxS 1 (.t 6) (.t 8)) [],
  o1 11 (.load none (.t 10)) [10],
  o1 5 (.mv (.t 11)) [11]]
@[reducible] def fCrcSum_r5 : List (DOper × List Nat) := [
  o1 12 (.mv (.t 3)) [3],
  o1 13 (.mv (.t 5)) [5],
  o1 14 (.call 79 [(.t 12), (.t 13)]) [12, 13],
  o1 3 (.mv (.t 14)) [14]]
@[reducible] def fCrcSum_r6 : List (DOper × List Nat) := [
  o1 15 (.bin false .add (.t 8) (.k (.int .i64 1))) [8],
  o1 8 (.mv (.t 15)) [15]]
/-- live: [3, 6, 7, 8] -/
@[reducible] def fCrcSum_l0 : KCode := (.seq (.reg fCrcSum_r3) (.seq (.cond (.t 9) (.kill [9] .skip) (.keep [3] (.exit 0))) (.kill [9] (.seq (.block 1 (.seq (.reg fCrcSum_r4) (.reg fCrcSum_r5))) (.keep [3, 6, 7, 8] (.reg fCrcSum_r6))))))
@[reducible] def fCrcSum_r7 : List (DOper × List Nat) := [
  o1 16 (.mv (.t 3)) [3],
  o1 2 (.mv (.t 16)) [16]]
/-- bosun/crc.Sum -/
@[reducible] def fCrcSum : KCode := (.seq (.reg fCrcSum_r0) (.seq (.reg fCrcSum_r1) (.seq (.seq (.reg fCrcSum_r2) (.block 0 (.loop fCrcSum_l0))) (.keep [3] (.seq (.reg fCrcSum_r7) .ret)))))
@[reducible] def fCrcSum_rs : List IRes := [.tmp 2]
theorem fCrcSum_low : lowFunc Try.prog 69 [] [] = some ⟨fCrcSum.bare, fCrcSum_rs, 17⟩ := by kernel_rfl

@[reducible] def fRecRight_r0 : List (DOper × List Nat) := [
  o1 1 (.box 42 (.t 0)) [0],
  o1 2 (.mv (.k (.bool false))) [2]]
@[reducible] def fRecRight_r1 : List (DOper × List Nat) := [
  o1 3 (.fieldAddr 2 (.t 1)) [],
  o1 4 (.load none (.t 3)) [3],
  o1 5 (.bin false .leq (.t 4) (.k (.int .u32 4096))) [4],
  o1 6 (.mv (.t 5)) [5],
  (⟨⟨(some 7), (some (6, true)), .fieldAddr 5 (.t 1)⟩, 0, []⟩, []),
  (⟨⟨(some 8), (some (6, true)), .load none (.t 7)⟩, 0, []⟩, [7]),
  (⟨⟨(some 9), (some (6, true)), .bin false .leq (.t 8) (.k (.int .u32 4096))⟩, 0, []⟩, [8]),
  o1 10 (.pick (.t 6) (.t 9) (.k (.bool false))) [6, 9],
  o1 11 (.mv (.t 10)) [10],
  (⟨⟨(some 12), (some (11, true)), .fieldAddr 4 (.t 1)⟩, 0, []⟩, []),
  (⟨⟨(some 13), (some (11, true)), .load none (.t 12)⟩, 0, []⟩, [12]),
  (⟨⟨(some 14), (some (11, true)), .bin false .leq (.t 13) (.k (.int .u8 2))⟩, 0, []⟩, [13]),
  o1 15 (.pick (.t 11) (.t 14) (.k (.bool false))) [11, 14],
  o1 16 (.mv (.t 15)) [15],
  (⟨⟨(some 17), (some (16, true)), .fieldAddr 6 (.t 1)⟩, 0, []⟩, []),
  (⟨⟨(some 18), (some (16, true)), .load none (.t 17)⟩, 0, []⟩, [17]),
  (⟨⟨(some 19), (some (16, true)), .len true (.t 18)⟩, 0, []⟩, [18]),
  (⟨⟨(some 20), (some (16, true)), .bin false .leq (.t 19) (.k (.int .i64 128))⟩, 0, []⟩, [19]),
  o1 21 (.pick (.t 16) (.t 20) (.k (.bool false))) [16, 20],
  o1 22 (.mv (.t 21)) [21],
  (⟨⟨(some 23), (some (22, true)), .fieldAddr 4 (.t 1)⟩, 0, []⟩, []),
  (⟨⟨(some 24), (some (22, true)), .load none (.t 23)⟩, 0, []⟩, [23]),
  (⟨⟨(some 25), (some (22, true)), .bin false .neq (.t 24) (.k (.int .u8 0))⟩, 0, []⟩, [24]),
  (⟨⟨(some 26), (some (22, true)), .mv (.t 25)⟩, 0, []⟩, [25]),
  (⟨⟨(some 27), (some (26, false)), .fieldAddr 6 (.t 1)⟩, 0, []⟩, []),
  (⟨⟨(some 28), (some (26, false)), .load none (.t 27)⟩, 0, []⟩, [27]),
  (⟨⟨(some 29), (some (26, false)), .len true (.t 28)⟩, 0, []⟩, [28]),
  (⟨⟨(some 30), (some (26, false)), .bin false .eql (.t 29) (.k (.int .i64 0))⟩, 0, []⟩, [29]),
  (⟨⟨(some 31), (some (26, false)), .mv (.t 30)⟩, 0, []⟩, [30]),
  (⟨⟨(some 32), (some (31, true)), .fieldAddr 5 (.t 1)⟩, 0, []⟩, [1]),
  (⟨⟨(some 33), (some (31, true)), .load none (.t 32)⟩, 0, []⟩, [32]),
  (⟨⟨(some 34), (some (31, true)), .bin false .eql (.t 33) (.k (.int .u32 0))⟩, 0, []⟩, [33]),
  (⟨⟨(some 35), (some (26, false)), .pick (.t 31) (.t 34) (.k (.bool false))⟩, 0, []⟩, [31, 34]),
  (⟨⟨(some 36), (some (22, true)), .pick (.t 26) (.k (.bool true)) (.t 35)⟩, 0, []⟩, [26, 35]),
  o1 37 (.pick (.t 22) (.t 36) (.k (.bool false))) [22, 36],
  o1 2 (.mv (.t 37)) [37]]
/-- (bosun/record.Record).Right -/
@[reducible] def fRecRight : KCode := (.seq (.reg fRecRight_r0) (.seq (.reg fRecRight_r1) .ret))
@[reducible] def fRecRight_rs : List IRes := [.tmp 2]
theorem fRecRight_low : lowFunc Try.prog 30 [] [] = some ⟨fRecRight.bare, fRecRight_rs, 38⟩ := by kernel_rfl

@[reducible] def fRecPut_r0 : List (DOper × List Nat) := [
  o1 4 (.mv (.k (.list 1 ⟨true, true, false⟩ []))) [4]]
@[reducible] def fRecPut_r1 : List (DOper × List Nat) := [
  o1 5 (.mv (.t 0)) [0],
  o1 6 (.mv (.t 1)) [],
  o1 7 (.convI .u8 (.t 6)) [6],
  o1 8 (.mv (.t 1)) [],
  o1 9 (.bin false .shr (.t 8) (.k (.int .u64 8))) [8],
  o1 10 (.convI .u8 (.t 9)) [9],
  o1 11 (.mv (.t 1)) [],
  o1 12 (.bin false .shr (.t 11) (.k (.int .u64 16))) [11],
  o1 13 (.convI .u8 (.t 12)) [12],
  o1 14 (.mv (.t 1)) [1],
  o1 15 (.bin false .shr (.t 14) (.k (.int .u64 24))) [14],
  o1 16 (.convI .u8 (.t 15)) [15],
  o1 17 (.buildF 5 1 [(.int .u8 0), (.int .u8 0), (.int .u8 0), (.int .u8 0)] [(0, 1, (.t 7)), (1, 1, (.t 10)), (2, 1, (.t 13)), (3, 1, (.t 16))]) [7, 10, 13, 16],
  o1 18 (.appO 5 1 1 (.t 5) (.t 17)) [5, 17],
  o1 4 (.mv (.t 18)) [18]]
/-- bosun/record.put -/
@[reducible] def fRecPut : KCode := (.seq (.reg fRecPut_r0) (.seq (.reg fRecPut_r1) .ret))
@[reducible] def fRecPut_rs : List IRes := [.tmp 4]
theorem fRecPut_low : lowFunc Try.prog 62 [] [] = some ⟨fRecPut.bare, fRecPut_rs, 19⟩ := by kernel_rfl

@[reducible] def fRecGet_r0 : List (DOper × List Nat) := [
  o1 4 (.mv (.k (.int .u32 0))) [4]]
@[reducible] def fRecGet_r1 : List (DOper × List Nat) := [
  o1 5 (.mv (.t 0)) [],
  o2 6 1 (.mv (.t 1)) [],
  o2 7 2 (.idxS 1 (.t 5) (.t 6)) [5, 6],
  o2 8 3 (.load none (.t 7)) [7],
  o2 9 4 (.convI .u32 (.t 8)) [8],
  o2 10 5 (.mv (.t 0)) [],
  o2 11 6 (.mv (.t 1)) [],
  o2 12 7 (.bin false .add (.t 11) (.k (.int .i64 1))) [11],
  o2 13 8 (.idxS 1 (.t 10) (.t 12)) [10, 12],
  o2 14 9 (.load none (.t 13)) [13],
  o2 15 10 (.convI .u32 (.t 14)) [14],
  o2 16 11 (.bin false .shl (.t 15) (.k (.int .u64 8))) [15],
  o2 17 12 (.bin false .or (.t 9) (.t 16)) [9, 16],
  o2 18 13 (.mv (.t 0)) [],
  o2 19 14 (.mv (.t 1)) [],
  o2 20 15 (.bin false .add (.t 19) (.k (.int .i64 2))) [19],
  o2 21 16 (.idxS 1 (.t 18) (.t 20)) [18, 20],
  o2 22 17 (.load none (.t 21)) [21],
  o2 23 18 (.convI .u32 (.t 22)) [22],
  o2 24 19 (.bin false .shl (.t 23) (.k (.int .u64 16))) [23],
  o2 25 20 (.bin false .or (.t 17) (.t 24)) [17, 24],
  o2 26 21 (.mv (.t 0)) [0],
  o2 27 22 (.mv (.t 1)) [1],
  o2 28 23 (.bin false .add (.t 27) (.k (.int .i64 3))) [27],
  o2 29 24 (.idxS 1 (.t 26) (.t 28)) [26, 28],
  o2 30 25 (.load none (.t 29)) [29],
  o2 31 26 (.convI .u32 (.t 30)) [30],
  o2 32 27 (.bin false .shl (.t 31) (.k (.int .u64 24))) [31],
  o2 33 28 (.bin false .or (.t 25) (.t 32)) [25, 32],
  o2 4 29 (.mv (.t 33)) [33]]
/-- bosun/record.get -/
@[reducible] def fRecGet : KCode := (.seq (.reg fRecGet_r0) (.seq (.draw fRecGet_r1) .ret))
@[reducible] def fRecGet_rs : List IRes := [.tmp 4]
theorem fRecGet_low : lowFunc Try.prog 91 [] [] = some ⟨fRecGet.bare, fRecGet_rs, 34⟩ := by kernel_rfl

@[reducible] def fRecSum_r0 : List (DOper × List Nat) := [
  o1 2 (.mv (.k (.int .u32 0))) [2]]
@[reducible] def fRecSum_r1 : List (DOper × List Nat) := [
  o1 4 (.mv (.t 0)) [0],
  o1 5 (.buildF 22 1 [(.list 1 ⟨true, true, false⟩ [])] [(0, 1, (.t 4))]) [4],
  o1 6 (.call 69 [(.t 5)]) [5],
  o1 3 (.mv (.t 6)) [6]]
@[reducible] def fRecSum_r2 : List (DOper × List Nat) := [
  o1 7 (.mv (.t 3)) [],
  o1 8 (.bin false .neq (.t 7) (.k (.int .u32 4294967295))) [7]]
@[reducible] def fRecSum_r3 : List (DOper × List Nat) := [
  o1 9 (.mv (.t 3)) [3],
  o1 2 (.mv (.t 9)) [9]]
@[reducible] def fRecSum_k0 : KCode := (.kill [8] (.seq (.reg fRecSum_r3) .ret))
@[reducible] def fRecSum_r4 : List (DOper × List Nat) := [
  o1 2 (.mv (.k (.int .u32 0))) []]
/-- bosun/record.sum -/
@[reducible] def fRecSum : KCode := (.seq (.reg fRecSum_r0) (.seq (.seq (.reg fRecSum_r1) (.seq (.reg fRecSum_r2) (.cond (.t 8) fRecSum_k0 (.keep [] .skip)))) (.keep [] (.seq (.reg fRecSum_r4) .ret))))
@[reducible] def fRecSum_rs : List IRes := [.tmp 2]
theorem fRecSum_low : lowFunc Try.prog 63 [] [] = some ⟨fRecSum.bare, fRecSum_rs, 10⟩ := by kernel_rfl

@[reducible] def fRecEncode_r0 : List (DOper × List Nat) := [
  o1 1 (.box 42 (.t 0)) [0],
  o1 2 (.mv (.k (.list 1 ⟨true, true, false⟩ []))) [2],
  o1 3 (.mv (.k (.int .i64 0))) [3]]
@[reducible] def fRecEncode_r1 : List (DOper × List Nat) := [
  o1 7 (.load (some 7) (.t 1)) [],
  o1 8 (.call 30 [(.t 7)]) [7],
  o1 9 (.un .not (.t 8)) [8]]
@[reducible] def fRecEncode_r2 : List (DOper × List Nat) := [
  o1 2 (.mv (.k (.list 1 ⟨true, true, false⟩ []))) [],
  o1 3 (.mv (.k (.int .i64 1))) []]
@[reducible] def fRecEncode_k0 : KCode := (.keep [] (.seq (.reg fRecEncode_r2) .ret))
@[reducible] def fRecEncode_r3 : List (DOper × List Nat) := [
  o1 10 (.makeS 5 1 1 [(.int .u8 0)] (.k (.int .i64 0)) (.k (.int .i64 160))) [],
  o1 4 (.mv (.t 10)) [10]]
@[reducible] def fRecEncode_r4 : List (DOper × List Nat) := [
  o1 11 (.fieldAddr 0 (.t 1)) [],
  o1 12 (.load none (.t 11)) [11],
  o1 13 (.fieldAddr 1 (.t 1)) [],
  o1 14 (.load none (.t 13)) [13],
  o1 15 (.fieldAddr 2 (.t 1)) [],
  o1 16 (.load none (.t 15)) [15],
  o1 17 (.fieldAddr 3 (.t 1)) [],
  o1 18 (.load none (.t 17)) [17],
  o1 19 (.buildF 23 1 [(.int .u32 0), (.int .u32 0), (.int .u32 0), (.int .u32 0), (.int .u32 0)] [(0, 1, (.k (.int .u32 827216706))), (1, 1, (.t 12)), (2, 1, (.t 14)), (3, 1, (.t 16)), (4, 1, (.t 18))]) [12, 14, 16, 18],
  o1 20 (.len true (.t 19)) [],
  o1 21 (.mv (.k (.int .i64 0))) []]
@[reducible] def fRecEncode_r5 : List (DOper × List Nat) := [
  o1 22 (.bin false .lss (.t 21) (.t 20)) []]
@[reducible] def fRecEncode_k1 : KCode := (.keep [1, 4] (.exit 0))
@[reducible] def fRecEncode_r6 : List (DOper × List Nat) := [
  o1 23 (.idxS 1 (.t 19) (.t 21)) [],
  o1 24 (.load none (.t 23)) [23],
  o1 6 (.mv (.t 24)) [24]]
@[reducible] def fRecEncode_r7 : List (DOper × List Nat) := [
  o1 25 (.mv (.t 4)) [4],
  o1 26 (.mv (.t 6)) [6],
  o1 27 (.call 62 [(.t 25), (.t 26)]) [25, 26],
  o1 4 (.mv (.t 27)) [27]]
@[reducible] def fRecEncode_r8 : List (DOper × List Nat) := [
  o1 28 (.bin false .add (.t 21) (.k (.int .i64 1))) [21],
  o1 21 (.mv (.t 28)) [28]]
/-- live: [1, 4, 19, 20, 21] -/
@[reducible] def fRecEncode_l2 : KCode := (.seq (.reg fRecEncode_r5) (.seq (.cond (.t 22) (.kill [22] .skip) fRecEncode_k1) (.kill [22] (.seq (.block 1 (.seq (.reg fRecEncode_r6) (.reg fRecEncode_r7))) (.keep [1, 4, 19, 20, 21] (.reg fRecEncode_r8))))))
@[reducible] def fRecEncode_r9 : List (DOper × List Nat) := [
  o1 29 (.mv (.t 4)) [4],
  o2 30 1 (.fieldAddr 4 (.t 1)) [],
  o2 31 2 (.load none (.t 30)) [30],
  o2 32 3 (.fieldAddr 6 (.t 1)) [],
  o2 33 4 (.load none (.t 32)) [32],
  o2 34 5 (.len true (.t 33)) [33],
  o2 35 6 (.convI .u8 (.t 34)) [34],
  o2 36 7 (.buildF 5 1 [(.int .u8 0), (.int .u8 0), (.int .u8 0), (.int .u8 0)] [(0, 1, (.t 31)), (1, 1, (.t 35)), (2, 1, (.k (.int .u8 0))), (3, 1, (.k (.int .u8 0)))]) [31, 35],
  o2 38 9 (.fieldAddr 5 (.t 1)) [],
  o2 39 10 (.load none (.t 38)) [38],
  (⟨⟨(some 37), none, .appO 5 1 1 (.t 29) (.t 36)⟩, 8, [10]⟩, [29, 36]),
  o2 40 11 (.call 62 [(.t 37), (.t 39)]) [37, 39],
  o2 4 12 (.mv (.t 40)) [40]]
@[reducible] def fRecEncode_r10 : List (DOper × List Nat) := [
  o1 41 (.mv (.t 4)) [4],
  o1 42 (.slS 1 (.t 41) none (some (.k (.int .i64 156))) none) [41],
  o1 4 (.mv (.t 42)) [42]]
@[reducible] def fRecEncode_r11 : List (DOper × List Nat) := [
  o1 43 (.mv (.t 4)) [],
  o2 44 1 (.slS 1 (.t 43) (some (.k (.int .i64 28))) none none) [43],
  o2 45 2 (.fieldAddr 6 (.t 1)) [1],
  o2 46 3 (.load none (.t 45)) [45],
  o2 47 4 (.copy 1 (.t 44) (.t 46)) [44, 46, 47]]
@[reducible] def fRecEncode_r12 : List (DOper × List Nat) := [
  o1 48 (.mv (.t 4)) [],
  o1 49 (.mv (.t 4)) [4],
  o1 50 (.call 63 [(.t 49)]) [49],
  o1 51 (.call 62 [(.t 48), (.t 50)]) [48, 50],
  o1 2 (.mv (.t 51)) [51],
  o1 3 (.mv (.k (.int .i64 0))) []]
/-- (bosun/record.Record).Encode -/
@[reducible] def fRecEncode : KCode := (.seq (.reg fRecEncode_r0) (.seq (.seq (.reg fRecEncode_r1) (.cond (.t 9) fRecEncode_k0 (.kill [9] .skip))) (.keep [1] (.seq (.reg fRecEncode_r3) (.seq (.seq (.reg fRecEncode_r4) (.block 0 (.loop fRecEncode_l2))) (.keep [1, 4] (.seq (.draw fRecEncode_r9) (.seq (.reg fRecEncode_r10) (.seq (.draw fRecEncode_r11) (.seq (.reg fRecEncode_r12) .ret))))))))))
@[reducible] def fRecEncode_rs : List IRes := [.tmp 2, .tmp 3]
theorem fRecEncode_low : lowFunc Try.prog 27 [] [(9, [0, 1, 2, 3, 4, 5, 6, 7, 9, 10, 8, 11, 12])] = some ⟨fRecEncode.bare, fRecEncode_rs, 52⟩ := by kernel_rfl

@[reducible] def fRecParse_r0 : List (DOper × List Nat) := [
  o1 2 (.alloc 42 [(.int .u32 0), (.int .u32 0), (.int .u32 0), (.int .u32 0), (.int .u8 0), (.int .u32 0), (.list 1 ⟨true, true, false⟩ [])]) [],
  o1 3 (.mv (.k (.int .i64 0))) [3]]
@[reducible] def fRecParse_r1 : List (DOper × List Nat) := [
  o1 8 (.mv (.t 0)) [],
  o1 9 (.len true (.t 8)) [8],
  o1 10 (.bin false .neq (.t 9) (.k (.int .i64 160))) [9],
  o1 11 (.mv (.t 10)) [10],
  (⟨⟨(some 12), (some (11, false)), .mv (.t 0)⟩, 0, []⟩, []),
  (⟨⟨(some 13), (some (11, false)), .call 91 [(.t 12), (.k (.int .i64 0))]⟩, 0, []⟩, [12]),
  (⟨⟨(some 14), (some (11, false)), .bin false .neq (.t 13) (.k (.int .u32 827216706))⟩, 0, []⟩, [13]),
  o1 15 (.pick (.t 11) (.k (.bool true)) (.t 14)) [11, 14],
  o1 7 (.mv (.t 15)) [15]]
@[reducible] def fRecParse_r2 : List (DOper × List Nat) := [
  o1 16 (.build [(.int .u32 0), (.int .u32 0), (.int .u32 0), (.int .u32 0), (.int .u8 0), (.int .u32 0), (.list 1 ⟨true, true, false⟩ [])] []) [],
  (⟨⟨none, none, .store 7 (.t 2) (.t 16)⟩, 0, []⟩, [16]),
  o1 3 (.mv (.k (.int .i64 7))) []]
@[reducible] def fRecParse_r3 : List (DOper × List Nat) := [
  o1 18 (.mv (.t 0)) [],
  o1 19 (.slS 1 (.t 18) none (some (.k (.int .i64 156))) none) [18],
  o1 20 (.call 63 [(.t 19)]) [19],
  o1 21 (.mv (.t 0)) [],
  o1 22 (.call 91 [(.t 21), (.k (.int .i64 156))]) [21],
  o1 23 (.bin false .neq (.t 20) (.t 22)) [20, 22],
  o1 17 (.mv (.t 23)) [23]]
@[reducible] def fRecParse_r4 : List (DOper × List Nat) := [
  o1 24 (.build [(.int .u32 0), (.int .u32 0), (.int .u32 0), (.int .u32 0), (.int .u8 0), (.int .u32 0), (.list 1 ⟨true, true, false⟩ [])] []) [],
  (⟨⟨none, none, .store 7 (.t 2) (.t 24)⟩, 0, []⟩, [24]),
  o1 3 (.mv (.k (.int .i64 8))) []]
@[reducible] def fRecParse_r5 : List (DOper × List Nat) := [
  o1 26 (.mv (.t 0)) [],
  o1 27 (.idxS 1 (.t 26) (.k (.int .i64 21))) [26],
  o1 28 (.load none (.t 27)) [27],
  o1 29 (.convI .i64 (.t 28)) [28],
  o1 30 (.bin false .gtr (.t 29) (.k (.int .i64 128))) [29],
  o1 25 (.mv (.t 30)) [30]]
@[reducible] def fRecParse_r6 : List (DOper × List Nat) := [
  o1 31 (.build [(.int .u32 0), (.int .u32 0), (.int .u32 0), (.int .u32 0), (.int .u8 0), (.int .u32 0), (.list 1 ⟨true, true, false⟩ [])] []) [],
  (⟨⟨none, none, .store 7 (.t 2) (.t 31)⟩, 0, []⟩, [31]),
  o1 3 (.mv (.k (.int .i64 7))) []]
@[reducible] def fRecParse_k0 : KCode := (.keep [2] (.seq (.reg fRecParse_r6) .ret))
@[reducible] def fRecParse_k1 : KCode := (.keep [2] (.seq (.reg fRecParse_r4) .ret))
@[reducible] def fRecParse_k2 : KCode := (.kill [17] (.seq (.reg fRecParse_r5) (.cond (.t 25) fRecParse_k0 (.kill [25] .skip))))
@[reducible] def fRecParse_k3 : KCode := (.keep [2] (.seq (.reg fRecParse_r2) .ret))
@[reducible] def fRecParse_k4 : KCode := (.kill [7] (.seq (.reg fRecParse_r3) (.cond (.t 17) fRecParse_k1 fRecParse_k2)))
@[reducible] def fRecParse_r7 : List (DOper × List Nat) := [
  o1 32 (.mv (.t 0)) [],
  o2 33 1 (.callP 91 [(.t 32), (.k (.int .i64 4))]) [32],
  o2 34 2 (.mv (.t 0)) [],
  o2 35 3 (.callP 91 [(.t 34), (.k (.int .i64 8))]) [34],
  o2 36 4 (.mv (.t 0)) [],
  o2 37 5 (.callP 91 [(.t 36), (.k (.int .i64 12))]) [36],
  o2 38 6 (.mv (.t 0)) [],
  o2 39 7 (.callP 91 [(.t 38), (.k (.int .i64 16))]) [38],
  o2 40 8 (.mv (.t 0)) [],
  o2 41 9 (.idxS 1 (.t 40) (.k (.int .i64 20))) [40],
  o2 42 10 (.load none (.t 41)) [41],
  o2 43 11 (.mv (.t 0)) [],
  o2 44 12 (.callP 91 [(.t 43), (.k (.int .i64 24))]) [43],
  o2 45 13 (.build [(.int .u32 0), (.int .u32 0), (.int .u32 0), (.int .u32 0), (.int .u8 0), (.int .u32 0), (.list 1 ⟨true, true, false⟩ [])] [(0, 1, (.t 33)), (1, 1, (.t 35)), (2, 1, (.t 37)), (3, 1, (.t 39)), (4, 1, (.t 42)), (5, 1, (.t 44))]) [33, 35, 37, 39, 42, 44],
  (⟨⟨(some 4), none, .alloc 42 [(.int .u32 0), (.int .u32 0), (.int .u32 0), (.int .u32 0), (.int .u8 0), (.int .u32 0), (.list 1 ⟨true, true, false⟩ [])]⟩, 14, [10]⟩, []),
  (⟨⟨none, none, .store 7 (.t 4) (.t 45)⟩, 15, []⟩, [45])]
@[reducible] def fRecParse_r8 : List (DOper × List Nat) := [
  o1 46 (.fieldAddr 6 (.t 4)) [],
  o2 47 1 (.load none (.t 46)) [46],
  o2 48 2 (.mv (.t 0)) [],
  o2 49 3 (.mv (.t 0)) [],
  o2 50 4 (.idxS 1 (.t 49) (.k (.int .i64 21))) [49],
  o2 51 5 (.load none (.t 50)) [50],
  o2 52 6 (.convI .i64 (.t 51)) [51],
  o2 53 7 (.bin false .add (.k (.int .i64 28)) (.t 52)) [52],
  o2 54 8 (.slS 1 (.t 48) (some (.k (.int .i64 28))) (some (.t 53)) none) [48, 53],
  o2 55 9 (.appF 5 1 1 (.t 47) (.t 54)) [47, 54],
  o2 56 10 (.fieldAddr 6 (.t 4)) [],
  (⟨⟨none, none, .store 1 (.t 56) (.t 55)⟩, 11, []⟩, [55, 56])]
@[reducible] def fRecParse_r9 : List (DOper × List Nat) := [
  o1 58 (.load (some 7) (.t 4)) [],
  o1 59 (.call 27 [(.t 58)]) [58],
  o1 57 (.mv (.t 59)) [59],
  o1 60 (.extract 0 (.t 57)) [],
  o1 61 (.extract 1 (.t 57)) [57],
  o1 5 (.mv (.t 60)) [60],
  o1 6 (.mv (.t 61)) [61]]
@[reducible] def fRecParse_r10 : List (DOper × List Nat) := [
  o1 62 (.mv (.t 6)) [6],
  o1 63 (.bin false .neq (.t 62) (.k (.int .i64 0))) [62],
  o1 64 (.mv (.t 63)) [63],
  (⟨⟨(some 65), (some (64, false)), .mv (.t 5)⟩, 0, []⟩, [5]),
  (⟨⟨(some 66), (some (64, false)), .toStr (.t 65)⟩, 0, []⟩, [65]),
  (⟨⟨(some 67), (some (64, false)), .mv (.t 0)⟩, 0, []⟩, [0]),
  (⟨⟨(some 68), (some (64, false)), .toStr (.t 67)⟩, 0, []⟩, [67]),
  (⟨⟨(some 69), (some (64, false)), .bin false .neq (.t 66) (.t 68)⟩, 0, []⟩, [66, 68]),
  o1 70 (.pick (.t 64) (.k (.bool true)) (.t 69)) [64, 69]]
@[reducible] def fRecParse_r11 : List (DOper × List Nat) := [
  o1 71 (.build [(.int .u32 0), (.int .u32 0), (.int .u32 0), (.int .u32 0), (.int .u8 0), (.int .u32 0), (.list 1 ⟨true, true, false⟩ [])] []) [],
  (⟨⟨none, none, .store 7 (.t 2) (.t 71)⟩, 0, []⟩, [71]),
  o1 3 (.mv (.k (.int .i64 7))) []]
@[reducible] def fRecParse_k5 : KCode := (.keep [2] (.seq (.reg fRecParse_r11) .ret))
@[reducible] def fRecParse_r12 : List (DOper × List Nat) := [
  o1 72 (.load (some 7) (.t 4)) [4],
  (⟨⟨none, none, .store 7 (.t 2) (.t 72)⟩, 0, []⟩, [72]),
  o1 3 (.mv (.k (.int .i64 0))) []]
/-- bosun/record.Parse -/
@[reducible] def fRecParse : KCode := (.seq (.reg fRecParse_r0) (.seq (.block 0 (.seq (.reg fRecParse_r1) (.cond (.t 7) fRecParse_k3 fRecParse_k4))) (.keep [0, 2] (.seq (.draw fRecParse_r7) (.seq (.draw fRecParse_r8) (.seq (.seq (.reg fRecParse_r9) (.seq (.reg fRecParse_r10) (.cond (.t 70) fRecParse_k5 (.kill [70] .skip)))) (.keep [2, 4] (.seq (.reg fRecParse_r12) .ret))))))))
@[reducible] def fRecParse_rs : List IRes := [.cell 2 (some 7), .tmp 3]
theorem fRecParse_low : lowFunc Try.prog 85 [(8, 9), (7, 1), (7, 3), (7, 5), (7, 7), (7, 12)] [] = some ⟨fRecParse.bare, fRecParse_rs, 73⟩ := by kernel_rfl

end Go.Proofs.Ytjehncilahjmdaa
