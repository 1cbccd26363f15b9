/-
  Codes of functions.
-/
import Derived.Test.YthgibibeoapfbaaF1
import Derived.Test.YthgibibeoapfbaaRows
set_option linter.unusedSimpArgs false
set_option linter.unnecessarySimpa false
set_option linter.unusedVariables false
set_option linter.unusedSectionVars false
namespace Go.Proofs.Ythgibibeoapfbaa
open Go.Fw
@[reducible] def fMul64_r0 : List (DOper × List Nat) := [
  o1 4 (.mv (.k (.int .u64 0))) [4],
  o1 5 (.mv (.k (.int .u64 0))) [5]]
@[reducible] def fMul64_r1 : List (DOper × List Nat) := [
  o1 14 (.mv (.t 0)) [],
  o1 15 (.bin false .and (.t 14) (.k (.int .u64 4294967295))) [14],
  o1 6 (.mv (.t 15)) [15]]
@[reducible] def fMul64_r2 : List (DOper × List Nat) := [
  o1 16 (.mv (.t 0)) [],
  o1 17 (.bin false .shr (.t 16) (.k (.int .u64 32))) [16],
  o1 7 (.mv (.t 17)) [17]]
@[reducible] def fMul64_r3 : List (DOper × List Nat) := [
  o1 18 (.mv (.t 1)) [],
  o1 19 (.bin false .and (.t 18) (.k (.int .u64 4294967295))) [18],
  o1 8 (.mv (.t 19)) [19]]
@[reducible] def fMul64_r4 : List (DOper × List Nat) := [
  o1 20 (.mv (.t 1)) [],
  o1 21 (.bin false .shr (.t 20) (.k (.int .u64 32))) [20],
  o1 9 (.mv (.t 21)) [21]]
@[reducible] def fMul64_r5 : List (DOper × List Nat) := [
  o1 22 (.mv (.t 6)) [],
  o1 23 (.mv (.t 8)) [],
  o1 24 (.bin false .mul (.t 22) (.t 23)) [22, 23],
  o1 10 (.mv (.t 24)) [24]]
@[reducible] def fMul64_r6 : List (DOper × List Nat) := [
  o1 25 (.mv (.t 7)) [],
  o1 26 (.mv (.t 8)) [8],
  o1 27 (.bin false .mul (.t 25) (.t 26)) [25, 26],
  o1 28 (.mv (.t 10)) [10],
  o1 29 (.bin false .shr (.t 28) (.k (.int .u64 32))) [28],
  o1 30 (.bin false .add (.t 27) (.t 29)) [27, 29],
  o1 11 (.mv (.t 30)) [30]]
@[reducible] def fMul64_r7 : List (DOper × List Nat) := [
  o1 31 (.mv (.t 11)) [],
  o1 32 (.bin false .and (.t 31) (.k (.int .u64 4294967295))) [31],
  o1 12 (.mv (.t 32)) [32]]
@[reducible] def fMul64_r8 : List (DOper × List Nat) := [
  o1 33 (.mv (.t 11)) [11],
  o1 34 (.bin false .shr (.t 33) (.k (.int .u64 32))) [33],
  o1 13 (.mv (.t 34)) [34]]
@[reducible] def fMul64_r9 : List (DOper × List Nat) := [
  o1 35 (.mv (.t 12)) [12],
  o1 36 (.mv (.t 6)) [6],
  o1 37 (.mv (.t 9)) [],
  o1 38 (.bin false .mul (.t 36) (.t 37)) [36, 37],
  o1 39 (.bin false .add (.t 35) (.t 38)) [35, 38],
  o1 12 (.mv (.t 39)) [39]]
@[reducible] def fMul64_r10 : List (DOper × List Nat) := [
  o1 40 (.mv (.t 7)) [7],
  o1 41 (.mv (.t 9)) [9],
  o1 42 (.bin false .mul (.t 40) (.t 41)) [40, 41],
  o1 43 (.mv (.t 13)) [13],
  o1 44 (.bin false .add (.t 42) (.t 43)) [42, 43],
  o1 45 (.mv (.t 12)) [12],
  o1 46 (.bin false .shr (.t 45) (.k (.int .u64 32))) [45],
  o1 47 (.bin false .add (.t 44) (.t 46)) [44, 46],
  o1 4 (.mv (.t 47)) [47]]
@[reducible] def fMul64_r11 : List (DOper × List Nat) := [
  o1 48 (.mv (.t 0)) [0],
  o1 49 (.mv (.t 1)) [1],
  o1 50 (.bin false .mul (.t 48) (.t 49)) [48, 49],
  o1 5 (.mv (.t 50)) [50]]
/-- math/bits.Mul64 -/
@[reducible] def fMul64 : KCode := (.seq (.reg fMul64_r0) (.seq (.reg fMul64_r1) (.seq (.reg fMul64_r2) (.seq (.reg fMul64_r3) (.seq (.reg fMul64_r4) (.seq (.reg fMul64_r5) (.seq (.reg fMul64_r6) (.seq (.reg fMul64_r7) (.seq (.reg fMul64_r8) (.seq (.reg fMul64_r9) (.seq (.reg fMul64_r10) (.seq (.reg fMul64_r11) .ret))))))))))))
@[reducible] def fMul64_rs : List IRes := [.tmp 4, .tmp 5]
theorem fMul64_low : lowFunc Try.prog 133 [] [] = some ⟨fMul64.bare, fMul64_rs, 51⟩ := by kernel_rfl

@[reducible] def fFdModulus_r0 : List (DOper × List Nat) := [
  o1 0 (.alloc 49 [(.int .u64 0), (.int .u64 0), (.int .u64 0), (.int .u64 0)]) []]
@[reducible] def fFdModulus_r1 : List (DOper × List Nat) := [
  o1 1 (.build [(.int .u64 0), (.int .u64 0), (.int .u64 0), (.int .u64 0)] [(0, 1, (.k (.int .u64 18446744073709551597))), (1, 1, (.k (.int .u64 18446744073709551615))), (2, 1, (.k (.int .u64 18446744073709551615))), (3, 1, (.k (.int .u64 9223372036854775807)))]) [],
  (⟨⟨none, none, .store 4 (.t 0) (.t 1)⟩, 0, []⟩, [1])]
/-- bosun/field.modulus -/
@[reducible] def fFdModulus : KCode := (.seq (.reg fFdModulus_r0) (.seq (.reg fFdModulus_r1) .ret))
@[reducible] def fFdModulus_rs : List IRes := [.cell 0 (some 4)]
theorem fFdModulus_low : lowFunc Try.prog 112 [] [] = some ⟨fFdModulus.bare, fFdModulus_rs, 2⟩ := by kernel_rfl

@[reducible] def fFdSmall_r0 : List (DOper × List Nat) := [
  o1 2 (.alloc 49 [(.int .u64 0), (.int .u64 0), (.int .u64 0), (.int .u64 0)]) []]
@[reducible] def fFdSmall_r1 : List (DOper × List Nat) := [
  o1 3 (.mv (.t 0)) [0],
  o1 4 (.build [(.int .u64 0), (.int .u64 0), (.int .u64 0), (.int .u64 0)] [(0, 1, (.t 3))]) [3],
  (⟨⟨none, none, .store 4 (.t 2) (.t 4)⟩, 0, []⟩, [4])]
/-- bosun/field.Small -/
@[reducible] def fFdSmall : KCode := (.seq (.reg fFdSmall_r0) (.seq (.reg fFdSmall_r1) .ret))
@[reducible] def fFdSmall_rs : List IRes := [.cell 2 (some 4)]
theorem fFdSmall_low : lowFunc Try.prog 62 [] [] = some ⟨fFdSmall.bare, fFdSmall_rs, 5⟩ := by kernel_rfl

@[reducible] def fFdLess_r0 : List (DOper × List Nat) := [
  o1 2 (.box 49 (.t 0)) [0],
  o1 3 (.box 49 (.t 1)) [1],
  o1 4 (.mv (.k (.bool false))) [4]]
@[reducible] def fFdLess_r1 : List (DOper × List Nat) := [
  o1 5 (.mv (.k (.int .i64 3))) []]
@[reducible] def fFdLess_r2 : List (DOper × List Nat) := [
  o1 6 (.mv (.t 5)) [],
  o1 7 (.bin false .geq (.t 6) (.k (.int .i64 0))) [6]]
@[reducible] def fFdLess_r3 : List (DOper × List Nat) := [
  o1 10 (.mv (.t 5)) [],
  o2 11 1 (.idxA 4 1 (.t 2) (.t 10)) [10],
  o2 12 2 (.load none (.t 11)) [11],
  o2 13 3 (.mv (.t 5)) [],
  o2 14 4 (.idxA 4 1 (.t 3) (.t 13)) [13],
  o2 15 5 (.load none (.t 14)) [14],
  o2 16 6 (.bin false .neq (.t 12) (.t 15)) [12, 15]]
@[reducible] def fFdLess_r4 : List (DOper × List Nat) := [
  o1 17 (.mv (.t 5)) [],
  o2 18 1 (.idxA 4 1 (.t 2) (.t 17)) [2, 17],
  o2 19 2 (.load none (.t 18)) [18],
  o2 20 3 (.mv (.t 5)) [5],
  o2 21 4 (.idxA 4 1 (.t 3) (.t 20)) [3, 20],
  o2 22 5 (.load none (.t 21)) [21],
  o2 23 6 (.bin false .lss (.t 19) (.t 22)) [19, 22],
  o2 4 7 (.mv (.t 23)) [23]]
@[reducible] def fFdLess_k0 : KCode := (.kill [16] (.seq (.draw fFdLess_r4) .ret))
@[reducible] def fFdLess_r5 : List (DOper × List Nat) := [
  o1 8 (.mv (.t 5)) [5],
  o1 9 (.bin false .sub (.t 8) (.k (.int .i64 1))) [8],
  o1 5 (.mv (.t 9)) [9]]
/-- live: [2, 3, 5] -/
@[reducible] def fFdLess_l1 : KCode := (.seq (.seq (.reg fFdLess_r2) (.cond (.t 7) (.kill [7] .skip) (.keep [] (.exit 0)))) (.kill [6, 7] (.seq (.block 1 (.seq (.draw fFdLess_r3) (.cond (.t 16) fFdLess_k0 (.kill [16] .skip)))) (.keep [2, 3, 5] (.reg fFdLess_r5)))))
@[reducible] def fFdLess_r6 : List (DOper × List Nat) := [
  o1 4 (.mv (.k (.bool false))) []]
/-- bosun/field.less -/
@[reducible] def fFdLess : KCode := (.seq (.reg fFdLess_r0) (.seq (.seq (.reg fFdLess_r1) (.block 0 (.loop fFdLess_l1))) (.keep [] (.seq (.reg fFdLess_r6) .ret))))
@[reducible] def fFdLess_rs : List IRes := [.tmp 4]
theorem fFdLess_low : lowFunc Try.prog 111 [] [] = some ⟨fFdLess.bare, fFdLess_rs, 24⟩ := by kernel_rfl

@[reducible] def fFdMinus_r0 : List (DOper × List Nat) := [
  o1 2 (.box 49 (.t 0)) [0],
  o1 3 (.box 49 (.t 1)) [1],
  o1 4 (.alloc 49 [(.int .u64 0), (.int .u64 0), (.int .u64 0), (.int .u64 0)]) []]
@[reducible] def fFdMinus_r1 : List (DOper × List Nat) := [
  o1 5 (.alloc 49 [(.int .u64 0), (.int .u64 0), (.int .u64 0), (.int .u64 0)]) []]
@[reducible] def fFdMinus_r2 : List (DOper × List Nat) := [
  o1 6 (.mv (.k (.int .u64 0))) []]
@[reducible] def fFdMinus_r3 : List (DOper × List Nat) := [
  o1 8 (.mv (.k (.int .i64 0))) []]
@[reducible] def fFdMinus_r4 : List (DOper × List Nat) := [
  o1 9 (.bin false .lss (.t 8) (.k (.int .i64 4))) []]
@[reducible] def fFdMinus_k0 : KCode := (.keep [4, 5] (.exit 0))
@[reducible] def fFdMinus_r5 : List (DOper × List Nat) := [
  o1 10 (.mv (.t 8)) [],
  o1 7 (.mv (.t 10)) [10]]
@[reducible] def fFdMinus_r6 : List (DOper × List Nat) := [
  o1 12 (.mv (.t 7)) [],
  o2 13 1 (.mv (.t 7)) [],
  o2 14 2 (.idxA 4 1 (.t 2) (.t 13)) [13],
  o2 15 3 (.load none (.t 14)) [14],
  o2 16 4 (.mv (.t 7)) [7],
  o2 17 5 (.idxA 4 1 (.t 3) (.t 16)) [16],
  o2 18 6 (.load none (.t 17)) [17],
  o2 19 7 (.mv (.t 6)) [6],
  o2 20 8 (.call 122 [(.t 15), (.t 18), (.t 19)]) [15, 18, 19],
  o2 11 9 (.mv (.t 20)) [20],
  o2 21 10 (.extract 0 (.t 11)) [],
  o2 22 11 (.extract 1 (.t 11)) [11],
  o2 23 12 (.idxA 4 1 (.t 5) (.t 12)) [12],
  (⟨⟨none, none, .store 1 (.t 23) (.t 21)⟩, 13, []⟩, [21, 23]),
  o2 6 14 (.mv (.t 22)) [22]]
@[reducible] def fFdMinus_r7 : List (DOper × List Nat) := [
  o1 24 (.bin false .add (.t 8) (.k (.int .i64 1))) [8],
  o1 8 (.mv (.t 24)) [24]]
/-- live: [2, 3, 4, 5, 6, 8] -/
@[reducible] def fFdMinus_l1 : KCode := (.seq (.reg fFdMinus_r4) (.seq (.cond (.t 9) (.kill [9] .skip) fFdMinus_k0) (.kill [9] (.seq (.block 1 (.seq (.reg fFdMinus_r5) (.draw fFdMinus_r6))) (.keep [2, 3, 4, 5, 6, 8] (.reg fFdMinus_r7))))))
@[reducible] def fFdMinus_r8 : List (DOper × List Nat) := [
  o1 25 (.load (some 4) (.t 5)) [5],
  (⟨⟨none, none, .store 4 (.t 4) (.t 25)⟩, 0, []⟩, [25])]
/-- bosun/field.minus -/
@[reducible] def fFdMinus : KCode := (.seq (.reg fFdMinus_r0) (.seq (.reg fFdMinus_r1) (.seq (.reg fFdMinus_r2) (.seq (.seq (.reg fFdMinus_r3) (.block 0 (.loop fFdMinus_l1))) (.keep [4, 5] (.seq (.reg fFdMinus_r8) .ret))))))
@[reducible] def fFdMinus_rs : List IRes := [.cell 4 (some 4)]
theorem fFdMinus_low : lowFunc Try.prog 116 [] [] = some ⟨fFdMinus.bare, fFdMinus_rs, 26⟩ := by kernel_rfl

@[reducible] def fFdReduced_r0 : List (DOper × List Nat) := [
  o1 1 (.box 49 (.t 0)) [0],
  o1 2 (.alloc 49 [(.int .u64 0), (.int .u64 0), (.int .u64 0), (.int .u64 0)]) []]
@[reducible] def fFdReduced_r1 : List (DOper × List Nat) := [
  o1 3 (.load (some 4) (.t 1)) [],
  (⟨⟨(some 4), none, .call 112 []⟩, 1, [0]⟩, []),
  o2 5 2 (.call 111 [(.t 3), (.t 4)]) [3, 4],
  o2 6 3 (.un .not (.t 5)) [5]]
@[reducible] def fFdReduced_r2 : List (DOper × List Nat) := [
  o1 7 (.load (some 4) (.t 1)) [],
  (⟨⟨(some 8), none, .call 112 []⟩, 1, [0]⟩, []),
  o2 9 2 (.call 116 [(.t 7), (.t 8)]) [7, 8],
  (⟨⟨none, none, .store 4 (.t 1) (.t 9)⟩, 3, []⟩, [9])]
/-- live: [1, 2] -/
@[reducible] def fFdReduced_l0 : KCode := (.seq (.seq (.draw fFdReduced_r1) (.cond (.t 6) (.kill [6] .skip) (.kill [6] (.exit 0)))) (.keep [1, 2] (.block 1 (.draw fFdReduced_r2))))
@[reducible] def fFdReduced_r3 : List (DOper × List Nat) := [
  o1 10 (.load (some 4) (.t 1)) [1],
  (⟨⟨none, none, .store 4 (.t 2) (.t 10)⟩, 0, []⟩, [10])]
/-- bosun/field.reduced -/
@[reducible] def fFdReduced : KCode := (.seq (.reg fFdReduced_r0) (.seq (.block 0 (.loop fFdReduced_l0)) (.keep [1, 2] (.seq (.reg fFdReduced_r3) .ret))))
@[reducible] def fFdReduced_rs : List IRes := [.cell 2 (some 4)]
theorem fFdReduced_low : lowFunc Try.prog 134 [] [] = some ⟨fFdReduced.bare, fFdReduced_rs, 11⟩ := by kernel_rfl

@[reducible] def fFdFolded_r0 : List (DOper × List Nat) := [
  o1 2 (.box 49 (.t 0)) [0],
  o1 4 (.alloc 49 [(.int .u64 0), (.int .u64 0), (.int .u64 0), (.int .u64 0)]) []]
@[reducible] def fFdFolded_r1 : List (DOper × List Nat) := [
  o1 8 (.mv (.t 1)) [],
  o1 9 (.bin false .gtr (.t 8) (.k (.int .u64 0))) [8]]
@[reducible] def fFdFolded_k0 : KCode := (.kill [1, 9] (.exit 0))
@[reducible] def fFdFolded_r2 : List (DOper × List Nat) := [
  o1 11 (.mv (.t 1)) [1],
  o1 12 (.call 133 [(.t 11), (.k (.int .u64 38))]) [11],
  o1 10 (.mv (.t 12)) [12],
  o1 13 (.extract 0 (.t 10)) [],
  o1 14 (.extract 1 (.t 10)) [10],
  o1 5 (.mv (.t 13)) [13],
  o1 6 (.mv (.t 14)) [14]]
@[reducible] def fFdFolded_r3 : List (DOper × List Nat) := [
  o1 7 (.mv (.k (.int .u64 0))) [7]]
@[reducible] def fFdFolded_r4 : List (DOper × List Nat) := [
  o1 16 (.idxA 4 1 (.t 2) (.k (.int .i64 0))) [],
  o1 17 (.load none (.t 16)) [16],
  o1 18 (.mv (.t 6)) [6],
  o1 19 (.call 90 [(.t 17), (.t 18), (.k (.int .u64 0))]) [17, 18],
  o1 15 (.mv (.t 19)) [19],
  o1 20 (.extract 0 (.t 15)) [],
  o1 21 (.extract 1 (.t 15)) [15],
  o1 22 (.idxA 4 1 (.t 2) (.k (.int .i64 0))) [],
  (⟨⟨none, none, .store 1 (.t 22) (.t 20)⟩, 0, []⟩, [20, 22]),
  o1 7 (.mv (.t 21)) [21]]
@[reducible] def fFdFolded_r5 : List (DOper × List Nat) := [
  o1 24 (.idxA 4 1 (.t 2) (.k (.int .i64 1))) [],
  o1 25 (.load none (.t 24)) [24],
  o1 26 (.mv (.t 5)) [5],
  o1 27 (.mv (.t 7)) [7],
  o1 28 (.call 90 [(.t 25), (.t 26), (.t 27)]) [25, 26, 27],
  o1 23 (.mv (.t 28)) [28],
  o1 29 (.extract 0 (.t 23)) [],
  o1 30 (.extract 1 (.t 23)) [23],
  o1 31 (.idxA 4 1 (.t 2) (.k (.int .i64 1))) [],
  (⟨⟨none, none, .store 1 (.t 31) (.t 29)⟩, 0, []⟩, [29, 31]),
  o1 7 (.mv (.t 30)) [30]]
@[reducible] def fFdFolded_r6 : List (DOper × List Nat) := [
  o1 33 (.idxA 4 1 (.t 2) (.k (.int .i64 2))) [],
  o1 34 (.load none (.t 33)) [33],
  o1 35 (.mv (.t 7)) [7],
  o1 36 (.call 90 [(.t 34), (.k (.int .u64 0)), (.t 35)]) [34, 35],
  o1 32 (.mv (.t 36)) [36],
  o1 37 (.extract 0 (.t 32)) [],
  o1 38 (.extract 1 (.t 32)) [32],
  o1 39 (.idxA 4 1 (.t 2) (.k (.int .i64 2))) [],
  (⟨⟨none, none, .store 1 (.t 39) (.t 37)⟩, 0, []⟩, [37, 39]),
  o1 7 (.mv (.t 38)) [38]]
@[reducible] def fFdFolded_r7 : List (DOper × List Nat) := [
  o1 41 (.idxA 4 1 (.t 2) (.k (.int .i64 3))) [],
  o1 42 (.load none (.t 41)) [41],
  o1 43 (.mv (.t 7)) [7],
  o1 44 (.call 90 [(.t 42), (.k (.int .u64 0)), (.t 43)]) [42, 43],
  o1 40 (.mv (.t 44)) [44],
  o1 45 (.extract 0 (.t 40)) [],
  o1 46 (.extract 1 (.t 40)) [40],
  o1 47 (.idxA 4 1 (.t 2) (.k (.int .i64 3))) [],
  (⟨⟨none, none, .store 1 (.t 47) (.t 45)⟩, 0, []⟩, [45, 47]),
  o1 7 (.mv (.t 46)) [46]]
@[reducible] def fFdFolded_r8 : List (DOper × List Nat) := [
  o1 48 (.mv (.t 7)) [7],
  o1 1 (.mv (.t 48)) [48]]
/-- live: [1, 2, 4] -/
@[reducible] def fFdFolded_l1 : KCode := (.seq (.seq (.reg fFdFolded_r1) (.cond (.t 9) (.kill [9] .skip) fFdFolded_k0)) (.kill [8, 9] (.block 1 (.seq (.reg fFdFolded_r2) (.seq (.reg fFdFolded_r3) (.seq (.reg fFdFolded_r4) (.seq (.reg fFdFolded_r5) (.seq (.reg fFdFolded_r6) (.seq (.reg fFdFolded_r7) (.reg fFdFolded_r8))))))))))
@[reducible] def fFdFolded_r9 : List (DOper × List Nat) := [
  o1 49 (.load (some 4) (.t 2)) [2],
  o1 50 (.call 134 [(.t 49)]) [49],
  (⟨⟨none, none, .store 4 (.t 4) (.t 50)⟩, 0, []⟩, [50])]
/-- bosun/field.folded -/
@[reducible] def fFdFolded : KCode := (.seq (.reg fFdFolded_r0) (.seq (.block 0 (.loop fFdFolded_l1)) (.keep [2, 4] (.seq (.reg fFdFolded_r9) .ret))))
@[reducible] def fFdFolded_rs : List IRes := [.cell 4 (some 4)]
theorem fFdFolded_low : lowFunc Try.prog 114 [] [] = some ⟨fFdFolded.bare, fFdFolded_rs, 51⟩ := by kernel_rfl

@[reducible] def fFdDecode_r0 : List (DOper × List Nat) := [
  o1 1 (.box 23 (.t 0)) [0],
  o1 2 (.alloc 49 [(.int .u64 0), (.int .u64 0), (.int .u64 0), (.int .u64 0)]) [],
  o1 3 (.mv (.k (.int .i64 0))) [3]]
@[reducible] def fFdDecode_r1 : List (DOper × List Nat) := [
  o1 4 (.alloc 49 [(.int .u64 0), (.int .u64 0), (.int .u64 0), (.int .u64 0)]) []]
@[reducible] def fFdDecode_r2 : List (DOper × List Nat) := [
  o1 7 (.load (some 32) (.t 1)) [1],
  o1 8 (.mv (.k (.int .i64 0))) []]
@[reducible] def fFdDecode_r3 : List (DOper × List Nat) := [
  o1 9 (.bin false .lss (.t 8) (.k (.int .i64 32))) []]
@[reducible] def fFdDecode_k0 : KCode := (.keep [2, 4] (.exit 0))
@[reducible] def fFdDecode_r4 : List (DOper × List Nat) := [
  o1 10 (.mv (.t 8)) [],
  o1 11 (.ixA 32 1 none (.t 7) (.t 8)) [],
  o1 5 (.mv (.t 10)) [10],
  o1 6 (.mv (.t 11)) [11]]
@[reducible] def fFdDecode_r5 : List (DOper × List Nat) := [
  o1 12 (.mv (.t 5)) [],
  o2 13 1 (.bin false .quo (.t 12) (.k (.int .i64 8))) [12],
  o2 14 2 (.idxA 4 1 (.t 4) (.t 13)) [],
  o2 15 3 (.load none (.t 14)) [14],
  o2 16 4 (.mv (.t 6)) [6],
  o2 17 5 (.convI .u64 (.t 16)) [16],
  o2 18 6 (.mv (.t 5)) [5],
  o2 19 7 (.bin false .rem (.t 18) (.k (.int .i64 8))) [18],
  o2 20 8 (.bin false .mul (.k (.int .i64 8)) (.t 19)) [19],
  o2 21 9 (.bin false .shl (.t 17) (.t 20)) [17, 20],
  o2 22 10 (.bin false .or (.t 15) (.t 21)) [15, 21],
  o2 23 11 (.idxA 4 1 (.t 4) (.t 13)) [13],
  (⟨⟨none, none, .store 1 (.t 23) (.t 22)⟩, 12, []⟩, [22, 23])]
@[reducible] def fFdDecode_r6 : List (DOper × List Nat) := [
  o1 24 (.bin false .add (.t 8) (.k (.int .i64 1))) [8],
  o1 8 (.mv (.t 24)) [24]]
/-- live: [2, 4, 7, 8] -/
@[reducible] def fFdDecode_l1 : KCode := (.seq (.reg fFdDecode_r3) (.seq (.cond (.t 9) (.kill [9] .skip) fFdDecode_k0) (.kill [9] (.seq (.block 1 (.seq (.reg fFdDecode_r4) (.draw fFdDecode_r5))) (.keep [2, 4, 7, 8] (.reg fFdDecode_r6))))))
@[reducible] def fFdDecode_r7 : List (DOper × List Nat) := [
  o1 25 (.load (some 4) (.t 4)) [],
  (⟨⟨(some 26), none, .call 112 []⟩, 1, [0]⟩, []),
  o2 27 2 (.call 111 [(.t 25), (.t 26)]) [25, 26],
  o2 28 3 (.un .not (.t 27)) [27]]
@[reducible] def fFdDecode_r8 : List (DOper × List Nat) := [
  o1 29 (.build [(.int .u64 0), (.int .u64 0), (.int .u64 0), (.int .u64 0)] []) [],
  (⟨⟨none, none, .store 4 (.t 2) (.t 29)⟩, 0, []⟩, [29]),
  o1 3 (.mv (.k (.int .i64 7))) []]
@[reducible] def fFdDecode_k2 : KCode := (.keep [2] (.seq (.reg fFdDecode_r8) .ret))
@[reducible] def fFdDecode_r9 : List (DOper × List Nat) := [
  o1 30 (.load (some 4) (.t 4)) [4],
  (⟨⟨none, none, .store 4 (.t 2) (.t 30)⟩, 0, []⟩, [30]),
  o1 3 (.mv (.k (.int .i64 0))) []]
/-- bosun/field.Decode -/
@[reducible] def fFdDecode : KCode := (.seq (.reg fFdDecode_r0) (.seq (.reg fFdDecode_r1) (.seq (.seq (.reg fFdDecode_r2) (.block 0 (.loop fFdDecode_l1))) (.keep [2, 4] (.seq (.seq (.draw fFdDecode_r7) (.cond (.t 28) fFdDecode_k2 (.kill [28] .skip))) (.keep [2, 4] (.seq (.reg fFdDecode_r9) .ret)))))))
@[reducible] def fFdDecode_rs : List IRes := [.cell 2 (some 4), .tmp 3]
theorem fFdDecode_low : lowFunc Try.prog 61 [] [] = some ⟨fFdDecode.bare, fFdDecode_rs, 31⟩ := by kernel_rfl

@[reducible] def fFdAdd_r0 : List (DOper × List Nat) := [
  o1 2 (.alloc 49 [(.int .u64 0), (.int .u64 0), (.int .u64 0), (.int .u64 0)]) []]
@[reducible] def fFdAdd_r1 : List (DOper × List Nat) := [
  o1 3 (.alloc 49 [(.int .u64 0), (.int .u64 0), (.int .u64 0), (.int .u64 0)]) []]
@[reducible] def fFdAdd_r2 : List (DOper × List Nat) := [
  o1 8 (.mv (.t 0)) [0],
  o1 9 (.len true (.t 8)) [],
  o1 10 (.mv (.k (.int .i64 0))) []]
@[reducible] def fFdAdd_r3 : List (DOper × List Nat) := [
  o1 11 (.bin false .lss (.t 10) (.t 9)) []]
@[reducible] def fFdAdd_k0 : KCode := (.keep [2, 3] (.exit 0))
@[reducible] def fFdAdd_r4 : List (DOper × List Nat) := [
  o1 12 (.idxS 4 (.t 8) (.t 10)) [],
  o1 13 (.load (some 4) (.t 12)) [12],
  o1 5 (.alloc 49 [(.int .u64 0), (.int .u64 0), (.int .u64 0), (.int .u64 0)]) [],
  (⟨⟨none, none, .store 4 (.t 5) (.t 13)⟩, 0, []⟩, [13])]
@[reducible] def fFdAdd_r5 : List (DOper × List Nat) := [
  o1 6 (.mv (.k (.int .u64 0))) []]
@[reducible] def fFdAdd_r6 : List (DOper × List Nat) := [
  o1 14 (.mv (.k (.int .i64 0))) []]
@[reducible] def fFdAdd_r7 : List (DOper × List Nat) := [
  o1 15 (.bin false .lss (.t 14) (.k (.int .i64 4))) []]
@[reducible] def fFdAdd_k1 : KCode := (.kill [5, 14, 15] (.exit 2))
@[reducible] def fFdAdd_r8 : List (DOper × List Nat) := [
  o1 16 (.mv (.t 14)) [],
  o1 7 (.mv (.t 16)) [16]]
@[reducible] def fFdAdd_r9 : List (DOper × List Nat) := [
  o1 18 (.mv (.t 7)) [],
  o2 19 1 (.mv (.t 7)) [],
  o2 20 2 (.idxA 4 1 (.t 3) (.t 19)) [19],
  o2 21 3 (.load none (.t 20)) [20],
  o2 22 4 (.mv (.t 7)) [7],
  o2 23 5 (.idxA 4 1 (.t 5) (.t 22)) [22],
  o2 24 6 (.load none (.t 23)) [23],
  o2 25 7 (.mv (.t 6)) [6],
  o2 26 8 (.call 90 [(.t 21), (.t 24), (.t 25)]) [21, 24, 25],
  o2 17 9 (.mv (.t 26)) [26],
  o2 27 10 (.extract 0 (.t 17)) [],
  o2 28 11 (.extract 1 (.t 17)) [17],
  o2 29 12 (.idxA 4 1 (.t 3) (.t 18)) [18],
  (⟨⟨none, none, .store 1 (.t 29) (.t 27)⟩, 13, []⟩, [27, 29]),
  o2 6 14 (.mv (.t 28)) [28]]
@[reducible] def fFdAdd_r10 : List (DOper × List Nat) := [
  o1 30 (.bin false .add (.t 14) (.k (.int .i64 1))) [14],
  o1 14 (.mv (.t 30)) [30]]
/-- live: [2, 3, 5, 6, 8, 9, 10, 14] -/
@[reducible] def fFdAdd_l2 : KCode := (.seq (.reg fFdAdd_r7) (.seq (.cond (.t 15) (.kill [15] .skip) fFdAdd_k1) (.kill [15] (.seq (.block 3 (.seq (.reg fFdAdd_r8) (.draw fFdAdd_r9))) (.keep [2, 3, 5, 6, 8, 9, 10, 14] (.reg fFdAdd_r10))))))
@[reducible] def fFdAdd_r11 : List (DOper × List Nat) := [
  o1 31 (.load (some 4) (.t 3)) [],
  o1 32 (.mv (.t 6)) [6],
  o1 33 (.call 114 [(.t 31), (.t 32)]) [31, 32],
  (⟨⟨none, none, .store 4 (.t 3) (.t 33)⟩, 0, []⟩, [33])]
@[reducible] def fFdAdd_r12 : List (DOper × List Nat) := [
  o1 34 (.bin false .add (.t 10) (.k (.int .i64 1))) [10],
  o1 10 (.mv (.t 34)) [34]]
/-- live: [2, 3, 8, 9, 10] -/
@[reducible] def fFdAdd_l3 : KCode := (.seq (.reg fFdAdd_r3) (.seq (.cond (.t 11) (.kill [11] .skip) fFdAdd_k0) (.kill [11] (.seq (.block 1 (.seq (.reg fFdAdd_r4) (.seq (.reg fFdAdd_r5) (.seq (.seq (.reg fFdAdd_r6) (.block 2 (.loop fFdAdd_l2))) (.keep [2, 3, 6, 8, 9, 10] (.reg fFdAdd_r11)))))) (.keep [2, 3, 8, 9, 10] (.reg fFdAdd_r12))))))
@[reducible] def fFdAdd_r13 : List (DOper × List Nat) := [
  o1 35 (.load (some 4) (.t 3)) [3],
  (⟨⟨none, none, .store 4 (.t 2) (.t 35)⟩, 0, []⟩, [35])]
/-- bosun/field.Add -/
@[reducible] def fFdAdd : KCode := (.seq (.reg fFdAdd_r0) (.seq (.reg fFdAdd_r1) (.seq (.seq (.reg fFdAdd_r2) (.block 0 (.loop fFdAdd_l3))) (.keep [2, 3] (.seq (.reg fFdAdd_r13) .ret)))))
@[reducible] def fFdAdd_rs : List IRes := [.cell 2 (some 4)]
theorem fFdAdd_low : lowFunc Try.prog 65 [] [] = some ⟨fFdAdd.bare, fFdAdd_rs, 36⟩ := by kernel_rfl

@[reducible] def fFdNeg_r0 : List (DOper × List Nat) := [
  o1 1 (.box 49 (.t 0)) [0],
  o1 2 (.alloc 49 [(.int .u64 0), (.int .u64 0), (.int .u64 0), (.int .u64 0)]) []]
@[reducible] def fFdNeg_r1 : List (DOper × List Nat) := [
  o1 3 (.load (some 4) (.t 1)) [],
  o1 4 (.build [(.int .u64 0), (.int .u64 0), (.int .u64 0), (.int .u64 0)] []) [],
  o1 5 (.eqA false [.u64, .u64, .u64, .u64] (.t 3) (.t 4)) [3, 4]]
@[reducible] def fFdNeg_r2 : List (DOper × List Nat) := [
  o1 6 (.load (some 4) (.t 1)) [1],
  (⟨⟨none, none, .store 4 (.t 2) (.t 6)⟩, 0, []⟩, [6])]
@[reducible] def fFdNeg_k0 : KCode := (.kill [5] (.seq (.reg fFdNeg_r2) .ret))
@[reducible] def fFdNeg_r3 : List (DOper × List Nat) := [
  o2 8 1 (.load (some 4) (.t 1)) [1],
  (⟨⟨(some 7), none, .call 112 []⟩, 0, [1]⟩, []),
  o2 9 2 (.call 116 [(.t 7), (.t 8)]) [7, 8],
  (⟨⟨none, none, .store 4 (.t 2) (.t 9)⟩, 3, []⟩, [9])]
/-- (bosun/field.Elem).Neg -/
@[reducible] def fFdNeg : KCode := (.seq (.reg fFdNeg_r0) (.seq (.seq (.reg fFdNeg_r1) (.cond (.t 5) fFdNeg_k0 (.kill [5] .skip))) (.keep [1, 2] (.seq (.draw fFdNeg_r3) .ret))))
@[reducible] def fFdNeg_rs : List IRes := [.cell 2 (some 4)]
theorem fFdNeg_low : lowFunc Try.prog 69 [] [(3, [1, 0, 2, 3])] = some ⟨fFdNeg.bare, fFdNeg_rs, 10⟩ := by kernel_rfl

@[reducible] def fFdSub_r0 : List (DOper × List Nat) := [
  o1 2 (.box 49 (.t 0)) [0],
  o1 3 (.box 49 (.t 1)) [1],
  o1 4 (.alloc 49 [(.int .u64 0), (.int .u64 0), (.int .u64 0), (.int .u64 0)]) []]
@[reducible] def fFdSub_r1 : List (DOper × List Nat) := [
  o1 5 (.load (some 4) (.t 2)) [2],
  o2 6 1 (.load (some 4) (.t 3)) [3],
  (⟨⟨(some 7), none, .call 69 [(.t 6)]⟩, 2, [0]⟩, [6]),
  o2 8 3 (.buildF 49 4 [(.int .u64 0), (.int .u64 0), (.int .u64 0), (.int .u64 0), (.int .u64 0), (.int .u64 0), (.int .u64 0), (.int .u64 0)] [(0, 4, (.t 5)), (4, 4, (.t 7))]) [5, 7],
  o2 9 4 (.call 65 [(.t 8)]) [8],
  (⟨⟨none, none, .store 4 (.t 4) (.t 9)⟩, 5, []⟩, [9])]
/-- bosun/field.Sub -/
@[reducible] def fFdSub : KCode := (.seq (.reg fFdSub_r0) (.seq (.draw fFdSub_r1) .ret))
@[reducible] def fFdSub_rs : List IRes := [.cell 4 (some 4)]
theorem fFdSub_low : lowFunc Try.prog 64 [] [] = some ⟨fFdSub.bare, fFdSub_rs, 10⟩ := by kernel_rfl

@[reducible] def fFdMul_r0 : List (DOper × List Nat) := [
  o1 2 (.alloc 49 [(.int .u64 0), (.int .u64 0), (.int .u64 0), (.int .u64 0)]) []]
@[reducible] def fFdMul_r1 : List (DOper × List Nat) := [
  o1 6 (.call 62 [(.k (.int .u64 1))]) [],
  o1 3 (.alloc 49 [(.int .u64 0), (.int .u64 0), (.int .u64 0), (.int .u64 0)]) [],
  (⟨⟨none, none, .store 4 (.t 3) (.t 6)⟩, 0, []⟩, [6])]
@[reducible] def fFdMul_r2 : List (DOper × List Nat) := [
  o1 7 (.mv (.t 0)) [0],
  o1 8 (.len true (.t 7)) [],
  o1 9 (.mv (.k (.int .i64 0))) []]
@[reducible] def fFdMul_r3 : List (DOper × List Nat) := [
  o1 10 (.bin false .lss (.t 9) (.t 8)) []]
@[reducible] def fFdMul_k0 : KCode := (.keep [2, 3] (.exit 0))
@[reducible] def fFdMul_r4 : List (DOper × List Nat) := [
  o1 11 (.idxS 4 (.t 7) (.t 9)) [],
  o1 12 (.load (some 4) (.t 11)) [11],
  o1 5 (.alloc 49 [(.int .u64 0), (.int .u64 0), (.int .u64 0), (.int .u64 0)]) [],
  (⟨⟨none, none, .store 4 (.t 5) (.t 12)⟩, 0, []⟩, [12])]
@[reducible] def fFdMul_r5 : List (DOper × List Nat) := [
  o1 13 (.load (some 4) (.t 3)) [],
  o1 14 (.load (some 4) (.t 5)) [5],
  o1 15 (.call 113 [(.t 13), (.t 14)]) [13, 14],
  (⟨⟨none, none, .store 4 (.t 3) (.t 15)⟩, 0, []⟩, [15])]
@[reducible] def fFdMul_r6 : List (DOper × List Nat) := [
  o1 16 (.bin false .add (.t 9) (.k (.int .i64 1))) [9],
  o1 9 (.mv (.t 16)) [16]]
/-- live: [2, 3, 7, 8, 9] -/
@[reducible] def fFdMul_l1 : KCode := (.seq (.reg fFdMul_r3) (.seq (.cond (.t 10) (.kill [10] .skip) fFdMul_k0) (.kill [10] (.seq (.block 1 (.seq (.reg fFdMul_r4) (.reg fFdMul_r5))) (.keep [2, 3, 7, 8, 9] (.reg fFdMul_r6))))))
@[reducible] def fFdMul_r7 : List (DOper × List Nat) := [
  o1 17 (.load (some 4) (.t 3)) [3],
  (⟨⟨none, none, .store 4 (.t 2) (.t 17)⟩, 0, []⟩, [17])]
/-- bosun/field.Mul -/
@[reducible] def fFdMul : KCode := (.seq (.reg fFdMul_r0) (.seq (.reg fFdMul_r1) (.seq (.seq (.reg fFdMul_r2) (.block 0 (.loop fFdMul_l1))) (.keep [2, 3] (.seq (.reg fFdMul_r7) .ret)))))
@[reducible] def fFdMul_rs : List IRes := [.cell 2 (some 4)]
theorem fFdMul_low : lowFunc Try.prog 63 [] [] = some ⟨fFdMul.bare, fFdMul_rs, 18⟩ := by kernel_rfl

@[reducible] def fFdTimes_r0 : List (DOper × List Nat) := [
  o1 2 (.box 49 (.t 0)) [0],
  o1 3 (.box 49 (.t 1)) [1],
  o1 4 (.alloc 49 [(.int .u64 0), (.int .u64 0), (.int .u64 0), (.int .u64 0)]) []]
@[reducible] def fFdTimes_r1 : List (DOper × List Nat) := [
  o1 5 (.alloc 180 [(.int .u64 0), (.int .u64 0), (.int .u64 0), (.int .u64 0), (.int .u64 0), (.int .u64 0), (.int .u64 0), (.int .u64 0)]) []]
@[reducible] def fFdTimes_r2 : List (DOper × List Nat) := [
  o1 22 (.load (some 4) (.t 2)) [2],
  o1 23 (.mv (.k (.int .i64 0))) []]
@[reducible] def fFdTimes_r3 : List (DOper × List Nat) := [
  o1 24 (.bin false .lss (.t 23) (.k (.int .i64 4))) []]
@[reducible] def fFdTimes_k0 : KCode := (.keep [4, 5] (.exit 0))
@[reducible] def fFdTimes_r4 : List (DOper × List Nat) := [
  o1 25 (.mv (.t 23)) [],
  o1 26 (.ixA 4 1 none (.t 22) (.t 23)) [],
  o1 6 (.mv (.t 25)) [25],
  o1 7 (.mv (.t 26)) [26]]
@[reducible] def fFdTimes_r5 : List (DOper × List Nat) := [
  o1 8 (.mv (.k (.int .u64 0))) []]
@[reducible] def fFdTimes_r6 : List (DOper × List Nat) := [
  o1 27 (.load (some 4) (.t 3)) [],
  o1 28 (.mv (.k (.int .i64 0))) []]
@[reducible] def fFdTimes_r7 : List (DOper × List Nat) := [
  o1 29 (.bin false .lss (.t 28) (.k (.int .i64 4))) []]
@[reducible] def fFdTimes_k1 : KCode := (.kill [7, 27, 28, 29] (.exit 2))
@[reducible] def fFdTimes_r8 : List (DOper × List Nat) := [
  o1 30 (.mv (.t 28)) [],
  o1 31 (.ixA 4 1 none (.t 27) (.t 28)) [],
  o1 9 (.mv (.t 30)) [30],
  o1 10 (.mv (.t 31)) [31]]
@[reducible] def fFdTimes_r9 : List (DOper × List Nat) := [
  o1 33 (.mv (.t 7)) [],
  o1 34 (.mv (.t 10)) [10],
  o1 35 (.call 133 [(.t 33), (.t 34)]) [33, 34],
  o1 32 (.mv (.t 35)) [35],
  o1 36 (.extract 0 (.t 32)) [],
  o1 37 (.extract 1 (.t 32)) [32],
  o1 11 (.mv (.t 36)) [36],
  o1 12 (.mv (.t 37)) [37]]
@[reducible] def fFdTimes_r10 : List (DOper × List Nat) := [
  o1 13 (.mv (.k (.int .u64 0))) [13],
  o1 14 (.mv (.k (.int .u64 0))) [14]]
@[reducible] def fFdTimes_r11 : List (DOper × List Nat) := [
  o1 39 (.mv (.t 12)) [12],
  o1 40 (.mv (.t 6)) [],
  o1 41 (.mv (.t 9)) [],
  o1 42 (.bin false .add (.t 40) (.t 41)) [40, 41],
  o1 43 (.idxA 8 1 (.t 5) (.t 42)) [42],
  o1 44 (.load none (.t 43)) [43],
  o1 45 (.call 90 [(.t 39), (.t 44), (.k (.int .u64 0))]) [39, 44],
  o1 38 (.mv (.t 45)) [45],
  o1 46 (.extract 0 (.t 38)) [],
  o1 47 (.extract 1 (.t 38)) [38],
  o1 12 (.mv (.t 46)) [46],
  o1 13 (.mv (.t 47)) [47]]
@[reducible] def fFdTimes_r12 : List (DOper × List Nat) := [
  o1 49 (.mv (.t 12)) [12],
  o1 50 (.mv (.t 8)) [8],
  o1 51 (.call 90 [(.t 49), (.t 50), (.k (.int .u64 0))]) [49, 50],
  o1 48 (.mv (.t 51)) [51],
  o1 52 (.extract 0 (.t 48)) [],
  o1 53 (.extract 1 (.t 48)) [48],
  o1 12 (.mv (.t 52)) [52],
  o1 14 (.mv (.t 53)) [53]]
@[reducible] def fFdTimes_r13 : List (DOper × List Nat) := [
  o1 54 (.mv (.t 6)) [],
  o1 55 (.mv (.t 9)) [9],
  o1 56 (.bin false .add (.t 54) (.t 55)) [54, 55],
  o1 57 (.mv (.t 12)) [12],
  o1 58 (.mv (.t 11)) [11],
  o1 59 (.mv (.t 13)) [13],
  o1 60 (.bin false .add (.t 58) (.t 59)) [58, 59],
  o1 61 (.mv (.t 14)) [14],
  o1 62 (.bin false .add (.t 60) (.t 61)) [60, 61],
  o1 63 (.idxA 8 1 (.t 5) (.t 56)) [56],
  (⟨⟨none, none, .store 1 (.t 63) (.t 57)⟩, 0, []⟩, [57, 63]),
  o1 8 (.mv (.t 62)) [62]]
@[reducible] def fFdTimes_r14 : List (DOper × List Nat) := [
  o1 64 (.bin false .add (.t 28) (.k (.int .i64 1))) [28],
  o1 28 (.mv (.t 64)) [64]]
/-- live: [3, 4, 5, 6, 7, 8, 22, 23, 27, 28] -/
@[reducible] def fFdTimes_l2 : KCode := (.seq (.reg fFdTimes_r7) (.seq (.cond (.t 29) (.kill [29] .skip) fFdTimes_k1) (.kill [29] (.seq (.block 3 (.seq (.reg fFdTimes_r8) (.seq (.reg fFdTimes_r9) (.seq (.reg fFdTimes_r10) (.seq (.reg fFdTimes_r11) (.seq (.reg fFdTimes_r12) (.reg fFdTimes_r13))))))) (.keep [3, 4, 5, 6, 7, 8, 22, 23, 27, 28] (.reg fFdTimes_r14))))))
@[reducible] def fFdTimes_r15 : List (DOper × List Nat) := [
  o1 65 (.mv (.t 6)) [6],
  o1 66 (.bin false .add (.t 65) (.k (.int .i64 4))) [65],
  o1 67 (.mv (.t 8)) [8],
  o1 68 (.idxA 8 1 (.t 5) (.t 66)) [66],
  (⟨⟨none, none, .store 1 (.t 68) (.t 67)⟩, 0, []⟩, [67, 68])]
@[reducible] def fFdTimes_r16 : List (DOper × List Nat) := [
  o1 69 (.bin false .add (.t 23) (.k (.int .i64 1))) [23],
  o1 23 (.mv (.t 69)) [69]]
/-- live: [3, 4, 5, 22, 23] -/
@[reducible] def fFdTimes_l3 : KCode := (.seq (.reg fFdTimes_r3) (.seq (.cond (.t 24) (.kill [24] .skip) fFdTimes_k0) (.kill [24] (.seq (.block 1 (.seq (.reg fFdTimes_r4) (.seq (.reg fFdTimes_r5) (.seq (.seq (.reg fFdTimes_r6) (.block 2 (.loop fFdTimes_l2))) (.keep [3, 4, 5, 6, 8, 22, 23] (.reg fFdTimes_r15)))))) (.keep [3, 4, 5, 22, 23] (.reg fFdTimes_r16))))))
@[reducible] def fFdTimes_r17 : List (DOper × List Nat) := [
  o1 15 (.alloc 49 [(.int .u64 0), (.int .u64 0), (.int .u64 0), (.int .u64 0)]) []]
@[reducible] def fFdTimes_r18 : List (DOper × List Nat) := [
  o1 16 (.mv (.k (.int .u64 0))) []]
@[reducible] def fFdTimes_r19 : List (DOper × List Nat) := [
  o1 70 (.mv (.k (.int .i64 0))) []]
@[reducible] def fFdTimes_r20 : List (DOper × List Nat) := [
  o1 71 (.bin false .lss (.t 70) (.k (.int .i64 4))) []]
@[reducible] def fFdTimes_k4 : KCode := (.kill [5, 70, 71] (.exit 4))
@[reducible] def fFdTimes_r21 : List (DOper × List Nat) := [
  o1 72 (.mv (.t 70)) [],
  o1 17 (.mv (.t 72)) [72]]
@[reducible] def fFdTimes_r22 : List (DOper × List Nat) := [
  o1 74 (.mv (.t 17)) [],
  o1 75 (.bin false .add (.t 74) (.k (.int .i64 4))) [74],
  o1 76 (.idxA 8 1 (.t 5) (.t 75)) [75],
  o1 77 (.load none (.t 76)) [76],
  o1 78 (.call 133 [(.t 77), (.k (.int .u64 38))]) [77],
  o1 73 (.mv (.t 78)) [78],
  o1 79 (.extract 0 (.t 73)) [],
  o1 80 (.extract 1 (.t 73)) [73],
  o1 18 (.mv (.t 79)) [79],
  o1 19 (.mv (.t 80)) [80]]
@[reducible] def fFdTimes_r23 : List (DOper × List Nat) := [
  o1 20 (.mv (.k (.int .u64 0))) [20],
  o1 21 (.mv (.k (.int .u64 0))) [21]]
@[reducible] def fFdTimes_r24 : List (DOper × List Nat) := [
  o1 82 (.mv (.t 19)) [19],
  o1 83 (.mv (.t 17)) [],
  o1 84 (.idxA 8 1 (.t 5) (.t 83)) [83],
  o1 85 (.load none (.t 84)) [84],
  o1 86 (.call 90 [(.t 82), (.t 85), (.k (.int .u64 0))]) [82, 85],
  o1 81 (.mv (.t 86)) [86],
  o1 87 (.extract 0 (.t 81)) [],
  o1 88 (.extract 1 (.t 81)) [81],
  o1 19 (.mv (.t 87)) [87],
  o1 20 (.mv (.t 88)) [88]]
@[reducible] def fFdTimes_r25 : List (DOper × List Nat) := [
  o1 90 (.mv (.t 19)) [19],
  o1 91 (.mv (.t 16)) [16],
  o1 92 (.call 90 [(.t 90), (.t 91), (.k (.int .u64 0))]) [90, 91],
  o1 89 (.mv (.t 92)) [92],
  o1 93 (.extract 0 (.t 89)) [],
  o1 94 (.extract 1 (.t 89)) [89],
  o1 19 (.mv (.t 93)) [93],
  o1 21 (.mv (.t 94)) [94]]
@[reducible] def fFdTimes_r26 : List (DOper × List Nat) := [
  o1 95 (.mv (.t 17)) [17],
  o1 96 (.mv (.t 19)) [19],
  o1 97 (.mv (.t 18)) [18],
  o1 98 (.mv (.t 20)) [20],
  o1 99 (.bin false .add (.t 97) (.t 98)) [97, 98],
  o1 100 (.mv (.t 21)) [21],
  o1 101 (.bin false .add (.t 99) (.t 100)) [99, 100],
  o1 102 (.idxA 4 1 (.t 15) (.t 95)) [95],
  (⟨⟨none, none, .store 1 (.t 102) (.t 96)⟩, 0, []⟩, [96, 102]),
  o1 16 (.mv (.t 101)) [101]]
@[reducible] def fFdTimes_r27 : List (DOper × List Nat) := [
  o1 103 (.bin false .add (.t 70) (.k (.int .i64 1))) [70],
  o1 70 (.mv (.t 103)) [103]]
/-- live: [4, 5, 15, 16, 70] -/
@[reducible] def fFdTimes_l5 : KCode := (.seq (.reg fFdTimes_r20) (.seq (.cond (.t 71) (.kill [71] .skip) fFdTimes_k4) (.kill [71] (.seq (.block 5 (.seq (.reg fFdTimes_r21) (.seq (.reg fFdTimes_r22) (.seq (.reg fFdTimes_r23) (.seq (.reg fFdTimes_r24) (.seq (.reg fFdTimes_r25) (.reg fFdTimes_r26))))))) (.keep [4, 5, 15, 16, 70] (.reg fFdTimes_r27))))))
@[reducible] def fFdTimes_r28 : List (DOper × List Nat) := [
  o1 104 (.load (some 4) (.t 15)) [15],
  o1 105 (.mv (.t 16)) [16],
  o1 106 (.call 114 [(.t 104), (.t 105)]) [104, 105],
  (⟨⟨none, none, .store 4 (.t 4) (.t 106)⟩, 0, []⟩, [106])]
/-- bosun/field.times -/
@[reducible] def fFdTimes : KCode := (.seq (.reg fFdTimes_r0) (.seq (.reg fFdTimes_r1) (.seq (.seq (.reg fFdTimes_r2) (.block 0 (.loop fFdTimes_l3))) (.keep [4, 5] (.seq (.reg fFdTimes_r17) (.seq (.reg fFdTimes_r18) (.seq (.seq (.reg fFdTimes_r19) (.block 4 (.loop fFdTimes_l5))) (.keep [4, 15, 16] (.seq (.reg fFdTimes_r28) .ret)))))))))
@[reducible] def fFdTimes_rs : List IRes := [.cell 4 (some 4)]
theorem fFdTimes_low : lowFunc Try.prog 113 [] [] = some ⟨fFdTimes.bare, fFdTimes_rs, 107⟩ := by kernel_rfl

@[reducible] def fFdPower_r0 : List (DOper × List Nat) := [
  o1 2 (.box 49 (.t 0)) [0],
  o1 3 (.box 48 (.t 1)) [1],
  o1 4 (.alloc 49 [(.int .u64 0), (.int .u64 0), (.int .u64 0), (.int .u64 0)]) []]
@[reducible] def fFdPower_r1 : List (DOper × List Nat) := [
  o1 7 (.call 62 [(.k (.int .u64 1))]) [],
  o1 5 (.alloc 49 [(.int .u64 0), (.int .u64 0), (.int .u64 0), (.int .u64 0)]) [],
  (⟨⟨none, none, .store 4 (.t 5) (.t 7)⟩, 0, []⟩, [7])]
@[reducible] def fFdPower_r2 : List (DOper × List Nat) := [
  o1 6 (.mv (.k (.int .i64 255))) []]
@[reducible] def fFdPower_r3 : List (DOper × List Nat) := [
  o1 8 (.mv (.t 6)) [],
  o1 9 (.bin false .geq (.t 8) (.k (.int .i64 0))) [8]]
@[reducible] def fFdPower_k0 : KCode := (.keep [4, 5] (.exit 0))
@[reducible] def fFdPower_r4 : List (DOper × List Nat) := [
  o1 12 (.load (some 4) (.t 5)) [],
  o1 13 (.load (some 4) (.t 5)) [],
  o1 14 (.call 113 [(.t 12), (.t 13)]) [12, 13],
  (⟨⟨none, none, .store 4 (.t 5) (.t 14)⟩, 0, []⟩, [14])]
@[reducible] def fFdPower_r5 : List (DOper × List Nat) := [
  o1 15 (.mv (.t 6)) [],
  o1 16 (.bin false .quo (.t 15) (.k (.int .i64 64))) [15],
  o1 17 (.idxA 4 1 (.t 3) (.t 16)) [16],
  o1 18 (.load none (.t 17)) [17],
  o1 19 (.mv (.t 6)) [],
  o1 20 (.bin false .rem (.t 19) (.k (.int .i64 64))) [19],
  o1 21 (.bin false .shr (.t 18) (.t 20)) [18, 20],
  o1 22 (.bin false .and (.t 21) (.k (.int .u64 1))) [21],
  o1 23 (.bin false .eql (.t 22) (.k (.int .u64 1))) [22]]
@[reducible] def fFdPower_r6 : List (DOper × List Nat) := [
  o1 24 (.load (some 4) (.t 5)) [],
  o1 25 (.load (some 4) (.t 2)) [],
  o1 26 (.call 113 [(.t 24), (.t 25)]) [24, 25],
  (⟨⟨none, none, .store 4 (.t 5) (.t 26)⟩, 0, []⟩, [26])]
@[reducible] def fFdPower_k1 : KCode := (.kill [23] (.reg fFdPower_r6))
@[reducible] def fFdPower_r7 : List (DOper × List Nat) := [
  o1 10 (.mv (.t 6)) [6],
  o1 11 (.bin false .sub (.t 10) (.k (.int .i64 1))) [10],
  o1 6 (.mv (.t 11)) [11]]
/-- live: [2, 3, 4, 5, 6] -/
@[reducible] def fFdPower_l2 : KCode := (.seq (.seq (.reg fFdPower_r3) (.cond (.t 9) (.kill [9] .skip) fFdPower_k0)) (.kill [8, 9] (.seq (.block 1 (.seq (.reg fFdPower_r4) (.seq (.reg fFdPower_r5) (.cond (.t 23) fFdPower_k1 (.kill [23] .skip))))) (.keep [2, 3, 4, 5, 6] (.reg fFdPower_r7)))))
@[reducible] def fFdPower_r8 : List (DOper × List Nat) := [
  o1 27 (.load (some 4) (.t 5)) [5],
  (⟨⟨none, none, .store 4 (.t 4) (.t 27)⟩, 0, []⟩, [27])]
/-- (bosun/field.Elem).Power -/
@[reducible] def fFdPower : KCode := (.seq (.reg fFdPower_r0) (.seq (.reg fFdPower_r1) (.seq (.seq (.reg fFdPower_r2) (.block 0 (.loop fFdPower_l2))) (.keep [4, 5] (.seq (.reg fFdPower_r8) .ret)))))
@[reducible] def fFdPower_rs : List IRes := [.cell 4 (some 4)]
theorem fFdPower_low : lowFunc Try.prog 115 [] [] = some ⟨fFdPower.bare, fFdPower_rs, 28⟩ := by kernel_rfl

@[reducible] def fFdInvert_r0 : List (DOper × List Nat) := [
  o1 1 (.box 49 (.t 0)) [0],
  o1 2 (.alloc 49 [(.int .u64 0), (.int .u64 0), (.int .u64 0), (.int .u64 0)]) []]
@[reducible] def fFdInvert_r1 : List (DOper × List Nat) := [
  o1 3 (.load (some 4) (.t 1)) [1],
  (⟨⟨(some 4), none, .call 112 []⟩, 1, [0]⟩, []),
  (⟨⟨(some 5), none, .call 62 [(.k (.int .u64 2))]⟩, 2, [0]⟩, []),
  (⟨⟨(some 6), none, .call 116 [(.t 4), (.t 5)]⟩, 3, [0]⟩, [4, 5]),
  o2 7 4 (.call 115 [(.t 3), (.t 6)]) [3, 6],
  (⟨⟨none, none, .store 4 (.t 2) (.t 7)⟩, 5, []⟩, [7])]
/-- (bosun/field.Elem).Invert -/
@[reducible] def fFdInvert : KCode := (.seq (.reg fFdInvert_r0) (.seq (.draw fFdInvert_r1) .ret))
@[reducible] def fFdInvert_rs : List IRes := [.cell 2 (some 4)]
theorem fFdInvert_low : lowFunc Try.prog 67 [] [] = some ⟨fFdInvert.bare, fFdInvert_rs, 8⟩ := by kernel_rfl

@[reducible] def fFdRoot_r0 : List (DOper × List Nat) := [
  o1 1 (.box 49 (.t 0)) [0],
  o1 2 (.alloc 49 [(.int .u64 0), (.int .u64 0), (.int .u64 0), (.int .u64 0)]) [],
  o1 3 (.mv (.k (.bool false))) [3]]
@[reducible] def fFdRoot_r1 : List (DOper × List Nat) := [
  o1 5 (.load (some 4) (.t 1)) [],
  o1 6 (.build [(.int .u64 0), (.int .u64 0), (.int .u64 0), (.int .u64 0)] [(0, 1, (.k (.int .u64 18446744073709551614))), (1, 1, (.k (.int .u64 18446744073709551615))), (2, 1, (.k (.int .u64 18446744073709551615))), (3, 1, (.k (.int .u64 1152921504606846975)))]) [],
  o1 7 (.call 115 [(.t 5), (.t 6)]) [5, 6],
  o1 4 (.alloc 49 [(.int .u64 0), (.int .u64 0), (.int .u64 0), (.int .u64 0)]) [],
  (⟨⟨none, none, .store 4 (.t 4) (.t 7)⟩, 0, []⟩, [7])]
@[reducible] def fFdRoot_r2 : List (DOper × List Nat) := [
  o1 8 (.load (some 4) (.t 4)) [],
  o2 9 1 (.load (some 4) (.t 4)) [],
  o2 11 3 (.load (some 4) (.t 1)) [],
  (⟨⟨(some 10), none, .call 113 [(.t 8), (.t 9)]⟩, 2, [3]⟩, [8, 9]),
  o2 12 4 (.eqA true [.u64, .u64, .u64, .u64] (.t 10) (.t 11)) [10, 11]]
@[reducible] def fFdRoot_r3 : List (DOper × List Nat) := [
  o1 13 (.load (some 4) (.t 4)) [],
  o1 14 (.build [(.int .u64 0), (.int .u64 0), (.int .u64 0), (.int .u64 0)] [(0, 1, (.k (.int .u64 14190309331451158704))), (1, 1, (.k (.int .u64 3405592160176694392))), (2, 1, (.k (.int .u64 3120150775007532967))), (3, 1, (.k (.int .u64 3135389899092516619)))]) [],
  o1 15 (.call 113 [(.t 13), (.t 14)]) [13, 14],
  (⟨⟨none, none, .store 4 (.t 4) (.t 15)⟩, 0, []⟩, [15])]
@[reducible] def fFdRoot_k0 : KCode := (.kill [12] (.reg fFdRoot_r3))
@[reducible] def fFdRoot_r4 : List (DOper × List Nat) := [
  o1 16 (.load (some 4) (.t 4)) [],
  o2 17 1 (.load (some 4) (.t 4)) [],
  o2 19 3 (.load (some 4) (.t 1)) [1],
  (⟨⟨(some 18), none, .call 113 [(.t 16), (.t 17)]⟩, 2, [3]⟩, [16, 17]),
  o2 20 4 (.eqA true [.u64, .u64, .u64, .u64] (.t 18) (.t 19)) [18, 19]]
@[reducible] def fFdRoot_r5 : List (DOper × List Nat) := [
  o1 21 (.build [(.int .u64 0), (.int .u64 0), (.int .u64 0), (.int .u64 0)] []) [],
  (⟨⟨none, none, .store 4 (.t 2) (.t 21)⟩, 0, []⟩, [21]),
  o1 3 (.mv (.k (.bool false))) []]
@[reducible] def fFdRoot_k1 : KCode := (.keep [2] (.seq (.reg fFdRoot_r5) .ret))
@[reducible] def fFdRoot_r6 : List (DOper × List Nat) := [
  o1 22 (.load (some 4) (.t 4)) [],
  o1 23 (.call 83 [(.t 22)]) [22]]
@[reducible] def fFdRoot_r7 : List (DOper × List Nat) := [
  o1 24 (.load (some 4) (.t 4)) [],
  o1 25 (.call 69 [(.t 24)]) [24],
  (⟨⟨none, none, .store 4 (.t 4) (.t 25)⟩, 0, []⟩, [25])]
@[reducible] def fFdRoot_k2 : KCode := (.kill [23] (.reg fFdRoot_r7))
@[reducible] def fFdRoot_r8 : List (DOper × List Nat) := [
  o1 26 (.load (some 4) (.t 4)) [4],
  (⟨⟨none, none, .store 4 (.t 2) (.t 26)⟩, 0, []⟩, [26]),
  o1 3 (.mv (.k (.bool true))) []]
/-- (bosun/field.Elem).Root -/
@[reducible] def fFdRoot : KCode := (.seq (.reg fFdRoot_r0) (.seq (.reg fFdRoot_r1) (.seq (.seq (.draw fFdRoot_r2) (.cond (.t 12) fFdRoot_k0 (.kill [12] .skip))) (.keep [1, 2, 4] (.seq (.seq (.draw fFdRoot_r4) (.cond (.t 20) fFdRoot_k1 (.kill [20] .skip))) (.keep [2, 4] (.seq (.seq (.reg fFdRoot_r6) (.cond (.t 23) fFdRoot_k2 (.kill [23] .skip))) (.keep [2, 4] (.seq (.reg fFdRoot_r8) .ret)))))))))
@[reducible] def fFdRoot_rs : List IRes := [.cell 2 (some 4), .tmp 3]
theorem fFdRoot_low : lowFunc Try.prog 68 [] [(2, [0, 1, 3, 2, 4]), (4, [0, 1, 3, 2, 4])] = some ⟨fFdRoot.bare, fFdRoot_rs, 27⟩ := by kernel_rfl

@[reducible] def fFdOdd_r0 : List (DOper × List Nat) := [
  o1 1 (.box 49 (.t 0)) [0],
  o1 2 (.mv (.k (.bool false))) [2]]
@[reducible] def fFdOdd_r1 : List (DOper × List Nat) := [
  o1 3 (.idxA 4 1 (.t 1) (.k (.int .i64 0))) [1],
  o1 4 (.load none (.t 3)) [3],
  o1 5 (.bin false .and (.t 4) (.k (.int .u64 1))) [4],
  o1 6 (.bin false .eql (.t 5) (.k (.int .u64 1))) [5],
  o1 2 (.mv (.t 6)) [6]]
/-- (bosun/field.Elem).Odd -/
@[reducible] def fFdOdd : KCode := (.seq (.reg fFdOdd_r0) (.seq (.reg fFdOdd_r1) .ret))
@[reducible] def fFdOdd_rs : List IRes := [.tmp 2]
theorem fFdOdd_low : lowFunc Try.prog 83 [] [] = some ⟨fFdOdd.bare, fFdOdd_rs, 7⟩ := by kernel_rfl

@[reducible] def fQP_r0 : List (DOper × List Nat) := [
  o1 0 (.alloc 55 [(.int .i64 0), (.int .i64 0), (.int .i64 0), (.int .i64 0), (.int .i64 0), (.int .i64 0), (.int .i64 0), (.int .i64 0), (.int .i64 0), (.int .i64 0), (.int .i64 0), (.int .i64 0), (.int .i64 0), (.int .i64 0), (.int .i64 0), (.int .i64 0), (.int .i64 0)]) []]
@[reducible] def fQP_r1 : List (DOper × List Nat) := [
  o1 1 (.alloc 55 [(.int .i64 0), (.int .i64 0), (.int .i64 0), (.int .i64 0), (.int .i64 0), (.int .i64 0), (.int .i64 0), (.int .i64 0), (.int .i64 0), (.int .i64 0), (.int .i64 0), (.int .i64 0), (.int .i64 0), (.int .i64 0), (.int .i64 0), (.int .i64 0), (.int .i64 0)]) []]
@[reducible] def fQP_r2 : List (DOper × List Nat) := [
  o1 2 (.mv (.k (.int .i64 0))) []]
@[reducible] def fQP_r3 : List (DOper × List Nat) := [
  o1 3 (.mv (.t 2)) [],
  o1 4 (.bin false .lss (.t 3) (.k (.int .i64 17))) [3]]
@[reducible] def fQP_k0 : KCode := (.kill [2, 4] (.exit 0))
@[reducible] def fQP_r4 : List (DOper × List Nat) := [
  o1 7 (.mv (.t 2)) [],
  o1 8 (.idxA 17 1 (.t 1) (.t 7)) [7],
  (⟨⟨none, none, .store 1 (.t 8) (.k (.int .i64 32767))⟩, 0, []⟩, [8])]
@[reducible] def fQP_r5 : List (DOper × List Nat) := [
  o1 5 (.mv (.t 2)) [2],
  o1 6 (.bin false .add (.t 5) (.k (.int .i64 1))) [5],
  o1 2 (.mv (.t 6)) [6]]
/-- live: [0, 1, 2] -/
@[reducible] def fQP_l1 : KCode := (.seq (.seq (.reg fQP_r3) (.cond (.t 4) (.kill [4] .skip) fQP_k0)) (.kill [3, 4] (.seq (.block 1 (.reg fQP_r4)) (.kill [7, 8] (.reg fQP_r5)))))
@[reducible] def fQP_r6 : List (DOper × List Nat) := [
  o1 9 (.idxA 17 1 (.t 1) (.k (.int .i64 0))) [],
  (⟨⟨none, none, .store 1 (.t 9) (.k (.int .i64 32749))⟩, 0, []⟩, [9])]
@[reducible] def fQP_r7 : List (DOper × List Nat) := [
  o1 10 (.load (some 17) (.t 1)) [1],
  (⟨⟨none, none, .store 17 (.t 0) (.t 10)⟩, 0, []⟩, [10])]
/-- bosun/bosunref05.P -/
@[reducible] def fQP : KCode := (.seq (.reg fQP_r0) (.seq (.reg fQP_r1) (.seq (.seq (.reg fQP_r2) (.block 0 (.loop fQP_l1))) (.keep [0, 1] (.seq (.reg fQP_r6) (.seq (.reg fQP_r7) .ret))))))
@[reducible] def fQP_rs : List IRes := [.cell 0 (some 17)]
theorem fQP_low : lowFunc Try.prog 73 [] [] = some ⟨fQP.bare, fQP_rs, 11⟩ := by kernel_rfl

@[reducible] def fQLess_r0 : List (DOper × List Nat) := [
  o1 2 (.box 55 (.t 0)) [0],
  o1 3 (.box 55 (.t 1)) [1],
  o1 4 (.mv (.k (.bool false))) [4]]
@[reducible] def fQLess_r1 : List (DOper × List Nat) := [
  o1 5 (.mv (.k (.int .i64 16))) []]
@[reducible] def fQLess_r2 : List (DOper × List Nat) := [
  o1 6 (.mv (.t 5)) [],
  o1 7 (.bin false .geq (.t 6) (.k (.int .i64 0))) [6]]
@[reducible] def fQLess_r3 : List (DOper × List Nat) := [
  o1 10 (.mv (.t 5)) [],
  o2 11 1 (.idxA 17 1 (.t 2) (.t 10)) [10],
  o2 12 2 (.load none (.t 11)) [11],
  o2 13 3 (.mv (.t 5)) [],
  o2 14 4 (.idxA 17 1 (.t 3) (.t 13)) [13],
  o2 15 5 (.load none (.t 14)) [14],
  o2 16 6 (.bin false .neq (.t 12) (.t 15)) [12, 15]]
@[reducible] def fQLess_r4 : List (DOper × List Nat) := [
  o1 17 (.mv (.t 5)) [],
  o2 18 1 (.idxA 17 1 (.t 2) (.t 17)) [2, 17],
  o2 19 2 (.load none (.t 18)) [18],
  o2 20 3 (.mv (.t 5)) [5],
  o2 21 4 (.idxA 17 1 (.t 3) (.t 20)) [3, 20],
  o2 22 5 (.load none (.t 21)) [21],
  o2 23 6 (.bin false .lss (.t 19) (.t 22)) [19, 22],
  o2 4 7 (.mv (.t 23)) [23]]
@[reducible] def fQLess_k0 : KCode := (.kill [16] (.seq (.draw fQLess_r4) .ret))
@[reducible] def fQLess_r5 : List (DOper × List Nat) := [
  o1 8 (.mv (.t 5)) [5],
  o1 9 (.bin false .sub (.t 8) (.k (.int .i64 1))) [8],
  o1 5 (.mv (.t 9)) [9]]
/-- live: [2, 3, 5] -/
@[reducible] def fQLess_l1 : KCode := (.seq (.seq (.reg fQLess_r2) (.cond (.t 7) (.kill [7] .skip) (.keep [] (.exit 0)))) (.kill [6, 7] (.seq (.block 1 (.seq (.draw fQLess_r3) (.cond (.t 16) fQLess_k0 (.kill [16] .skip)))) (.keep [2, 3, 5] (.reg fQLess_r5)))))
@[reducible] def fQLess_r6 : List (DOper × List Nat) := [
  o1 4 (.mv (.k (.bool false))) []]
/-- bosun/bosunref05.Less -/
@[reducible] def fQLess : KCode := (.seq (.reg fQLess_r0) (.seq (.seq (.reg fQLess_r1) (.block 0 (.loop fQLess_l1))) (.keep [] (.seq (.reg fQLess_r6) .ret))))
@[reducible] def fQLess_rs : List IRes := [.tmp 4]
theorem fQLess_low : lowFunc Try.prog 72 [] [] = some ⟨fQLess.bare, fQLess_rs, 24⟩ := by kernel_rfl

@[reducible] def fQFromBytes_r0 : List (DOper × List Nat) := [
  o1 1 (.box 23 (.t 0)) [0],
  o1 2 (.alloc 55 [(.int .i64 0), (.int .i64 0), (.int .i64 0), (.int .i64 0), (.int .i64 0), (.int .i64 0), (.int .i64 0), (.int .i64 0), (.int .i64 0), (.int .i64 0), (.int .i64 0), (.int .i64 0), (.int .i64 0), (.int .i64 0), (.int .i64 0), (.int .i64 0), (.int .i64 0)]) [],
  o1 3 (.mv (.k (.bool false))) [3]]
@[reducible] def fQFromBytes_r1 : List (DOper × List Nat) := [
  o1 4 (.alloc 55 [(.int .i64 0), (.int .i64 0), (.int .i64 0), (.int .i64 0), (.int .i64 0), (.int .i64 0), (.int .i64 0), (.int .i64 0), (.int .i64 0), (.int .i64 0), (.int .i64 0), (.int .i64 0), (.int .i64 0), (.int .i64 0), (.int .i64 0), (.int .i64 0), (.int .i64 0)]) []]
@[reducible] def fQFromBytes_r2 : List (DOper × List Nat) := [
  o1 5 (.mv (.k (.int .i64 0))) []]
@[reducible] def fQFromBytes_r3 : List (DOper × List Nat) := [
  o1 6 (.mv (.t 5)) [],
  o1 7 (.bin false .lss (.t 6) (.k (.int .i64 255))) [6]]
@[reducible] def fQFromBytes_k0 : KCode := (.kill [5, 7] (.exit 0))
@[reducible] def fQFromBytes_r4 : List (DOper × List Nat) := [
  o1 10 (.mv (.t 5)) [],
  o1 11 (.bin false .quo (.t 10) (.k (.int .i64 8))) [10],
  o1 12 (.idxA 32 1 (.t 1) (.t 11)) [11],
  o1 13 (.load none (.t 12)) [12],
  o1 14 (.mv (.t 5)) [],
  o1 15 (.bin false .rem (.t 14) (.k (.int .i64 8))) [14],
  o1 16 (.bin false .shr (.t 13) (.t 15)) [13, 15],
  o1 17 (.bin false .rem (.t 16) (.k (.int .u8 2))) [16],
  o1 18 (.bin false .eql (.t 17) (.k (.int .u8 1))) [17]]
@[reducible] def fQFromBytes_r5 : List (DOper × List Nat) := [
  o1 19 (.mv (.t 5)) [],
  o2 20 1 (.bin false .quo (.t 19) (.k (.int .i64 15))) [19],
  o2 21 2 (.idxA 17 1 (.t 4) (.t 20)) [],
  o2 22 3 (.load none (.t 21)) [21],
  o2 23 4 (.mv (.t 5)) [],
  o2 24 5 (.bin false .rem (.t 23) (.k (.int .i64 15))) [23],
  o2 25 6 (.bin false .shl (.k (.int .i64 1)) (.t 24)) [24],
  o2 26 7 (.bin false .add (.t 22) (.t 25)) [22, 25],
  o2 27 8 (.idxA 17 1 (.t 4) (.t 20)) [20],
  (⟨⟨none, none, .store 1 (.t 27) (.t 26)⟩, 9, []⟩, [26, 27])]
@[reducible] def fQFromBytes_k1 : KCode := (.kill [18] (.draw fQFromBytes_r5))
@[reducible] def fQFromBytes_r6 : List (DOper × List Nat) := [
  o1 8 (.mv (.t 5)) [5],
  o1 9 (.bin false .add (.t 8) (.k (.int .i64 1))) [8],
  o1 5 (.mv (.t 9)) [9]]
/-- live: [1, 2, 4, 5] -/
@[reducible] def fQFromBytes_l2 : KCode := (.seq (.seq (.reg fQFromBytes_r3) (.cond (.t 7) (.kill [7] .skip) fQFromBytes_k0)) (.kill [6, 7] (.seq (.block 1 (.seq (.reg fQFromBytes_r4) (.cond (.t 18) fQFromBytes_k1 (.kill [18] .skip)))) (.keep [1, 2, 4, 5] (.reg fQFromBytes_r6)))))
@[reducible] def fQFromBytes_r7 : List (DOper × List Nat) := [
  o1 28 (.load (some 17) (.t 4)) [4],
  o2 29 1 (.idxA 32 1 (.t 1) (.k (.int .i64 31))) [1],
  o2 30 2 (.load none (.t 29)) [29],
  o2 31 3 (.bin false .geq (.t 30) (.k (.int .u8 128))) [30],
  (⟨⟨none, none, .store 17 (.t 2) (.t 28)⟩, 4, [2]⟩, [28]),
  o2 3 5 (.mv (.t 31)) [31]]
/-- bosun/bosunref05.FromBytes -/
@[reducible] def fQFromBytes : KCode := (.seq (.reg fQFromBytes_r0) (.seq (.reg fQFromBytes_r1) (.seq (.seq (.reg fQFromBytes_r2) (.block 0 (.loop fQFromBytes_l2))) (.keep [1, 2, 4] (.seq (.draw fQFromBytes_r7) .ret)))))
@[reducible] def fQFromBytes_rs : List IRes := [.cell 2 (some 17), .tmp 3]
theorem fQFromBytes_low : lowFunc Try.prog 71 [] [] = some ⟨fQFromBytes.bare, fQFromBytes_rs, 32⟩ := by kernel_rfl

@[reducible] def fQBytes_r0 : List (DOper × List Nat) := [
  o1 1 (.box 55 (.t 0)) [0],
  o1 2 (.alloc 23 [(.int .u8 0), (.int .u8 0), (.int .u8 0), (.int .u8 0), (.int .u8 0), (.int .u8 0), (.int .u8 0), (.int .u8 0), (.int .u8 0), (.int .u8 0), (.int .u8 0), (.int .u8 0), (.int .u8 0), (.int .u8 0), (.int .u8 0), (.int .u8 0), (.int .u8 0), (.int .u8 0), (.int .u8 0), (.int .u8 0), (.int .u8 0), (.int .u8 0), (.int .u8 0), (.int .u8 0), (.int .u8 0), (.int .u8 0), (.int .u8 0), (.int .u8 0), (.int .u8 0), (.int .u8 0), (.int .u8 0), (.int .u8 0)]) []]
@[reducible] def fQBytes_r1 : List (DOper × List Nat) := [
  o1 3 (.alloc 23 [(.int .u8 0), (.int .u8 0), (.int .u8 0), (.int .u8 0), (.int .u8 0), (.int .u8 0), (.int .u8 0), (.int .u8 0), (.int .u8 0), (.int .u8 0), (.int .u8 0), (.int .u8 0), (.int .u8 0), (.int .u8 0), (.int .u8 0), (.int .u8 0), (.int .u8 0), (.int .u8 0), (.int .u8 0), (.int .u8 0), (.int .u8 0), (.int .u8 0), (.int .u8 0), (.int .u8 0), (.int .u8 0), (.int .u8 0), (.int .u8 0), (.int .u8 0), (.int .u8 0), (.int .u8 0), (.int .u8 0), (.int .u8 0)]) []]
@[reducible] def fQBytes_r2 : List (DOper × List Nat) := [
  o1 4 (.mv (.k (.int .i64 0))) []]
@[reducible] def fQBytes_r3 : List (DOper × List Nat) := [
  o1 5 (.mv (.t 4)) [],
  o1 6 (.bin false .lss (.t 5) (.k (.int .i64 255))) [5]]
@[reducible] def fQBytes_k0 : KCode := (.keep [2, 3] (.exit 0))
@[reducible] def fQBytes_r4 : List (DOper × List Nat) := [
  o1 9 (.mv (.t 4)) [],
  o1 10 (.bin false .quo (.t 9) (.k (.int .i64 15))) [9],
  o1 11 (.idxA 17 1 (.t 1) (.t 10)) [10],
  o1 12 (.load none (.t 11)) [11],
  o1 13 (.mv (.t 4)) [],
  o1 14 (.bin false .rem (.t 13) (.k (.int .i64 15))) [13],
  o1 15 (.bin false .shr (.t 12) (.t 14)) [12, 14],
  o1 16 (.bin false .rem (.t 15) (.k (.int .i64 2))) [15],
  o1 17 (.bin false .eql (.t 16) (.k (.int .i64 1))) [16]]
@[reducible] def fQBytes_r5 : List (DOper × List Nat) := [
  o1 18 (.mv (.t 4)) [],
  o2 19 1 (.bin false .quo (.t 18) (.k (.int .i64 8))) [18],
  o2 20 2 (.idxA 32 1 (.t 3) (.t 19)) [],
  o2 21 3 (.load none (.t 20)) [20],
  o2 22 4 (.mv (.t 4)) [],
  o2 23 5 (.bin false .rem (.t 22) (.k (.int .i64 8))) [22],
  o2 24 6 (.bin false .shl (.k (.int .u8 1)) (.t 23)) [23],
  o2 25 7 (.bin false .add (.t 21) (.t 24)) [21, 24],
  o2 26 8 (.idxA 32 1 (.t 3) (.t 19)) [19],
  (⟨⟨none, none, .store 1 (.t 26) (.t 25)⟩, 9, []⟩, [25, 26])]
@[reducible] def fQBytes_k1 : KCode := (.kill [17] (.draw fQBytes_r5))
@[reducible] def fQBytes_r6 : List (DOper × List Nat) := [
  o1 7 (.mv (.t 4)) [4],
  o1 8 (.bin false .add (.t 7) (.k (.int .i64 1))) [7],
  o1 4 (.mv (.t 8)) [8]]
/-- live: [1, 2, 3, 4] -/
@[reducible] def fQBytes_l2 : KCode := (.seq (.seq (.reg fQBytes_r3) (.cond (.t 6) (.kill [6] .skip) fQBytes_k0)) (.kill [5, 6] (.seq (.block 1 (.seq (.reg fQBytes_r4) (.cond (.t 17) fQBytes_k1 (.kill [17] .skip)))) (.keep [1, 2, 3, 4] (.reg fQBytes_r6)))))
@[reducible] def fQBytes_r7 : List (DOper × List Nat) := [
  o1 27 (.load (some 32) (.t 3)) [3],
  (⟨⟨none, none, .store 32 (.t 2) (.t 27)⟩, 0, []⟩, [27])]
/-- bosun/bosunref05.Bytes -/
@[reducible] def fQBytes : KCode := (.seq (.reg fQBytes_r0) (.seq (.reg fQBytes_r1) (.seq (.seq (.reg fQBytes_r2) (.block 0 (.loop fQBytes_l2))) (.keep [2, 3] (.seq (.reg fQBytes_r7) .ret)))))
@[reducible] def fQBytes_rs : List IRes := [.cell 2 (some 32)]
theorem fQBytes_low : lowFunc Try.prog 87 [] [] = some ⟨fQBytes.bare, fQBytes_rs, 28⟩ := by kernel_rfl

@[reducible] def fQLimbs_r0 : List (DOper × List Nat) := [
  o1 1 (.box 55 (.t 0)) [0],
  o1 2 (.alloc 48 [(.int .u64 0), (.int .u64 0), (.int .u64 0), (.int .u64 0)]) []]
@[reducible] def fQLimbs_r1 : List (DOper × List Nat) := [
  o1 3 (.alloc 48 [(.int .u64 0), (.int .u64 0), (.int .u64 0), (.int .u64 0)]) []]
@[reducible] def fQLimbs_r2 : List (DOper × List Nat) := [
  o1 6 (.load (some 17) (.t 1)) [1],
  o1 7 (.call 87 [(.t 6)]) [6],
  o1 4 (.alloc 23 [(.int .u8 0), (.int .u8 0), (.int .u8 0), (.int .u8 0), (.int .u8 0), (.int .u8 0), (.int .u8 0), (.int .u8 0), (.int .u8 0), (.int .u8 0), (.int .u8 0), (.int .u8 0), (.int .u8 0), (.int .u8 0), (.int .u8 0), (.int .u8 0), (.int .u8 0), (.int .u8 0), (.int .u8 0), (.int .u8 0), (.int .u8 0), (.int .u8 0), (.int .u8 0), (.int .u8 0), (.int .u8 0), (.int .u8 0), (.int .u8 0), (.int .u8 0), (.int .u8 0), (.int .u8 0), (.int .u8 0), (.int .u8 0)]) [],
  (⟨⟨none, none, .store 32 (.t 4) (.t 7)⟩, 0, []⟩, [7])]
@[reducible] def fQLimbs_r3 : List (DOper × List Nat) := [
  o1 5 (.mv (.k (.int .i64 31))) []]
@[reducible] def fQLimbs_r4 : List (DOper × List Nat) := [
  o1 8 (.mv (.t 5)) [],
  o1 9 (.bin false .geq (.t 8) (.k (.int .i64 0))) [8]]
@[reducible] def fQLimbs_k0 : KCode := (.keep [2, 3] (.exit 0))
@[reducible] def fQLimbs_r5 : List (DOper × List Nat) := [
  o1 12 (.mv (.t 5)) [],
  o2 13 1 (.bin false .quo (.t 12) (.k (.int .i64 8))) [12],
  o2 14 2 (.mv (.t 5)) [],
  o2 15 3 (.bin false .quo (.t 14) (.k (.int .i64 8))) [14],
  o2 16 4 (.idxA 4 1 (.t 3) (.t 15)) [15],
  o2 17 5 (.load none (.t 16)) [16],
  o2 18 6 (.bin false .mul (.t 17) (.k (.int .u64 256))) [17],
  o2 19 7 (.mv (.t 5)) [],
  o2 20 8 (.idxA 32 1 (.t 4) (.t 19)) [19],
  o2 21 9 (.load none (.t 20)) [20],
  o2 22 10 (.convI .u64 (.t 21)) [21],
  o2 23 11 (.bin false .add (.t 18) (.t 22)) [18, 22],
  o2 24 12 (.idxA 4 1 (.t 3) (.t 13)) [13],
  (⟨⟨none, none, .store 1 (.t 24) (.t 23)⟩, 13, []⟩, [23, 24])]
@[reducible] def fQLimbs_r6 : List (DOper × List Nat) := [
  o1 10 (.mv (.t 5)) [5],
  o1 11 (.bin false .sub (.t 10) (.k (.int .i64 1))) [10],
  o1 5 (.mv (.t 11)) [11]]
/-- live: [2, 3, 4, 5] -/
@[reducible] def fQLimbs_l1 : KCode := (.seq (.seq (.reg fQLimbs_r4) (.cond (.t 9) (.kill [9] .skip) fQLimbs_k0)) (.kill [8, 9] (.seq (.block 1 (.draw fQLimbs_r5)) (.keep [2, 3, 4, 5] (.reg fQLimbs_r6)))))
@[reducible] def fQLimbs_r7 : List (DOper × List Nat) := [
  o1 25 (.load (some 4) (.t 3)) [3],
  (⟨⟨none, none, .store 4 (.t 2) (.t 25)⟩, 0, []⟩, [25])]
/-- bosun/bosunref05.Limbs -/
@[reducible] def fQLimbs : KCode := (.seq (.reg fQLimbs_r0) (.seq (.reg fQLimbs_r1) (.seq (.reg fQLimbs_r2) (.seq (.seq (.reg fQLimbs_r3) (.block 0 (.loop fQLimbs_l1))) (.keep [2, 3] (.seq (.reg fQLimbs_r7) .ret))))))
@[reducible] def fQLimbs_rs : List IRes := [.cell 2 (some 4)]
theorem fQLimbs_low : lowFunc Try.prog 119 [] [] = some ⟨fQLimbs.bare, fQLimbs_rs, 26⟩ := by kernel_rfl

@[reducible] def fQSmall_r0 : List (DOper × List Nat) := [
  o1 2 (.alloc 55 [(.int .i64 0), (.int .i64 0), (.int .i64 0), (.int .i64 0), (.int .i64 0), (.int .i64 0), (.int .i64 0), (.int .i64 0), (.int .i64 0), (.int .i64 0), (.int .i64 0), (.int .i64 0), (.int .i64 0), (.int .i64 0), (.int .i64 0), (.int .i64 0), (.int .i64 0)]) []]
@[reducible] def fQSmall_r1 : List (DOper × List Nat) := [
  o1 3 (.alloc 55 [(.int .i64 0), (.int .i64 0), (.int .i64 0), (.int .i64 0), (.int .i64 0), (.int .i64 0), (.int .i64 0), (.int .i64 0), (.int .i64 0), (.int .i64 0), (.int .i64 0), (.int .i64 0), (.int .i64 0), (.int .i64 0), (.int .i64 0), (.int .i64 0), (.int .i64 0)]) []]
@[reducible] def fQSmall_r2 : List (DOper × List Nat) := [
  o1 4 (.mv (.t 0)) [0],
  o1 5 (.idxA 17 1 (.t 3) (.k (.int .i64 0))) [],
  (⟨⟨none, none, .store 1 (.t 5) (.t 4)⟩, 0, []⟩, [4, 5])]
@[reducible] def fQSmall_r3 : List (DOper × List Nat) := [
  o1 6 (.load (some 17) (.t 3)) [3],
  o1 7 (.call 117 [(.t 6)]) [6],
  (⟨⟨none, none, .store 17 (.t 2) (.t 7)⟩, 0, []⟩, [7])]
/-- bosun/bosunref05.Small -/
@[reducible] def fQSmall : KCode := (.seq (.reg fQSmall_r0) (.seq (.reg fQSmall_r1) (.seq (.reg fQSmall_r2) (.seq (.reg fQSmall_r3) .ret))))
@[reducible] def fQSmall_rs : List IRes := [.cell 2 (some 17)]
theorem fQSmall_low : lowFunc Try.prog 74 [] [] = some ⟨fQSmall.bare, fQSmall_rs, 8⟩ := by kernel_rfl

@[reducible] def fQSettle_r0 : List (DOper × List Nat) := [
  o1 1 (.box 55 (.t 0)) [0],
  o1 2 (.alloc 55 [(.int .i64 0), (.int .i64 0), (.int .i64 0), (.int .i64 0), (.int .i64 0), (.int .i64 0), (.int .i64 0), (.int .i64 0), (.int .i64 0), (.int .i64 0), (.int .i64 0), (.int .i64 0), (.int .i64 0), (.int .i64 0), (.int .i64 0), (.int .i64 0), (.int .i64 0)]) []]
@[reducible] def fQSettle_r1 : List (DOper × List Nat) := [
  o1 3 (.mv (.k (.int .i64 0))) []]
@[reducible] def fQSettle_r2 : List (DOper × List Nat) := [
  o1 7 (.mv (.t 3)) [],
  o1 8 (.bin false .lss (.t 7) (.k (.int .i64 4))) [7]]
@[reducible] def fQSettle_k0 : KCode := (.kill [3, 8] (.exit 0))
@[reducible] def fQSettle_r3 : List (DOper × List Nat) := [
  o1 4 (.mv (.k (.int .i64 0))) []]
@[reducible] def fQSettle_r4 : List (DOper × List Nat) := [
  o1 5 (.mv (.k (.int .i64 0))) []]
@[reducible] def fQSettle_r5 : List (DOper × List Nat) := [
  o1 11 (.mv (.t 5)) [],
  o1 12 (.bin false .lss (.t 11) (.k (.int .i64 17))) [11]]
@[reducible] def fQSettle_k1 : KCode := (.kill [5, 12] (.exit 2))
@[reducible] def fQSettle_r6 : List (DOper × List Nat) := [
  o1 15 (.mv (.t 5)) [],
  o1 16 (.idxA 17 1 (.t 1) (.t 15)) [15],
  o1 17 (.load none (.t 16)) [16],
  o1 18 (.mv (.t 4)) [4],
  o1 19 (.bin false .add (.t 17) (.t 18)) [17, 18],
  o1 6 (.mv (.t 19)) [19]]
@[reducible] def fQSettle_r7 : List (DOper × List Nat) := [
  o1 20 (.mv (.t 5)) [],
  o1 21 (.mv (.t 6)) [],
  o1 22 (.bin false .rem (.t 21) (.k (.int .i64 32768))) [21],
  o1 23 (.idxA 17 1 (.t 1) (.t 20)) [20],
  (⟨⟨none, none, .store 1 (.t 23) (.t 22)⟩, 0, []⟩, [22, 23])]
@[reducible] def fQSettle_r8 : List (DOper × List Nat) := [
  o1 24 (.mv (.t 6)) [6],
  o1 25 (.bin false .quo (.t 24) (.k (.int .i64 32768))) [24],
  o1 4 (.mv (.t 25)) [25]]
@[reducible] def fQSettle_r9 : List (DOper × List Nat) := [
  o1 13 (.mv (.t 5)) [5],
  o1 14 (.bin false .add (.t 13) (.k (.int .i64 1))) [13],
  o1 5 (.mv (.t 14)) [14]]
/-- live: [1, 2, 3, 4, 5] -/
@[reducible] def fQSettle_l2 : KCode := (.seq (.seq (.reg fQSettle_r5) (.cond (.t 12) (.kill [12] .skip) fQSettle_k1)) (.kill [11, 12] (.seq (.block 3 (.seq (.reg fQSettle_r6) (.seq (.reg fQSettle_r7) (.reg fQSettle_r8)))) (.keep [1, 2, 3, 4, 5] (.reg fQSettle_r9)))))
@[reducible] def fQSettle_r10 : List (DOper × List Nat) := [
  o1 26 (.idxA 17 1 (.t 1) (.k (.int .i64 0))) [],
  o1 27 (.load none (.t 26)) [26],
  o1 28 (.mv (.t 4)) [4],
  o1 29 (.bin false .mul (.k (.int .i64 19)) (.t 28)) [28],
  o1 30 (.bin false .add (.t 27) (.t 29)) [27, 29],
  o1 31 (.idxA 17 1 (.t 1) (.k (.int .i64 0))) [],
  (⟨⟨none, none, .store 1 (.t 31) (.t 30)⟩, 0, []⟩, [30, 31])]
@[reducible] def fQSettle_r11 : List (DOper × List Nat) := [
  o1 9 (.mv (.t 3)) [3],
  o1 10 (.bin false .add (.t 9) (.k (.int .i64 1))) [9],
  o1 3 (.mv (.t 10)) [10]]
/-- live: [1, 2, 3] -/
@[reducible] def fQSettle_l3 : KCode := (.seq (.seq (.reg fQSettle_r2) (.cond (.t 8) (.kill [8] .skip) fQSettle_k0)) (.kill [7, 8] (.seq (.block 1 (.seq (.reg fQSettle_r3) (.seq (.seq (.reg fQSettle_r4) (.block 2 (.loop fQSettle_l2))) (.keep [1, 2, 3, 4] (.reg fQSettle_r10))))) (.keep [1, 2, 3] (.reg fQSettle_r11)))))
@[reducible] def fQSettle_r12 : List (DOper × List Nat) := [
  o1 32 (.load (some 17) (.t 1)) [],
  (⟨⟨(some 33), none, .call 73 []⟩, 1, [0]⟩, []),
  o2 34 2 (.call 72 [(.t 32), (.t 33)]) [32, 33],
  o2 35 3 (.un .not (.t 34)) [34]]
@[reducible] def fQSettle_r13 : List (DOper × List Nat) := [
  o1 36 (.load (some 17) (.t 1)) [],
  (⟨⟨(some 37), none, .call 73 []⟩, 1, [0]⟩, []),
  o2 38 2 (.call 120 [(.t 36), (.t 37)]) [36, 37],
  (⟨⟨none, none, .store 17 (.t 1) (.t 38)⟩, 3, []⟩, [38])]
@[reducible] def fQSettle_k4 : KCode := (.kill [35] (.draw fQSettle_r13))
@[reducible] def fQSettle_r14 : List (DOper × List Nat) := [
  o1 39 (.load (some 17) (.t 1)) [1],
  (⟨⟨none, none, .store 17 (.t 2) (.t 39)⟩, 0, []⟩, [39])]
/-- bosun/bosunref05.settle -/
@[reducible] def fQSettle : KCode := (.seq (.reg fQSettle_r0) (.seq (.seq (.reg fQSettle_r1) (.block 0 (.loop fQSettle_l3))) (.keep [1, 2] (.seq (.seq (.draw fQSettle_r12) (.cond (.t 35) fQSettle_k4 (.kill [35] .skip))) (.keep [1, 2] (.seq (.reg fQSettle_r14) .ret))))))
@[reducible] def fQSettle_rs : List IRes := [.cell 2 (some 17)]
theorem fQSettle_low : lowFunc Try.prog 117 [] [] = some ⟨fQSettle.bare, fQSettle_rs, 40⟩ := by kernel_rfl

@[reducible] def fQUnder_r0 : List (DOper × List Nat) := [
  o1 2 (.box 55 (.t 0)) [0],
  o1 3 (.box 55 (.t 1)) [1],
  o1 4 (.alloc 55 [(.int .i64 0), (.int .i64 0), (.int .i64 0), (.int .i64 0), (.int .i64 0), (.int .i64 0), (.int .i64 0), (.int .i64 0), (.int .i64 0), (.int .i64 0), (.int .i64 0), (.int .i64 0), (.int .i64 0), (.int .i64 0), (.int .i64 0), (.int .i64 0), (.int .i64 0)]) []]
@[reducible] def fQUnder_r1 : List (DOper × List Nat) := [
  o1 5 (.mv (.k (.int .i64 0))) []]
@[reducible] def fQUnder_r2 : List (DOper × List Nat) := [
  o1 6 (.mv (.k (.int .i64 0))) []]
@[reducible] def fQUnder_r3 : List (DOper × List Nat) := [
  o1 8 (.mv (.t 6)) [],
  o1 9 (.bin false .lss (.t 8) (.k (.int .i64 17))) [8]]
@[reducible] def fQUnder_k0 : KCode := (.keep [2, 4] (.exit 0))
@[reducible] def fQUnder_r4 : List (DOper × List Nat) := [
  o1 12 (.mv (.t 6)) [],
  o2 13 1 (.idxA 17 1 (.t 2) (.t 12)) [12],
  o2 14 2 (.load none (.t 13)) [13],
  o2 15 3 (.mv (.t 6)) [],
  o2 16 4 (.idxA 17 1 (.t 3) (.t 15)) [15],
  o2 17 5 (.load none (.t 16)) [16],
  o2 18 6 (.bin false .sub (.t 14) (.t 17)) [14, 17],
  o2 19 7 (.mv (.t 5)) [5],
  o2 20 8 (.bin false .sub (.t 18) (.t 19)) [18, 19],
  o2 7 9 (.mv (.t 20)) [20]]
@[reducible] def fQUnder_r5 : List (DOper × List Nat) := [
  o1 5 (.mv (.k (.int .i64 0))) []]
@[reducible] def fQUnder_r6 : List (DOper × List Nat) := [
  o1 21 (.mv (.t 7)) [],
  o1 22 (.bin false .lss (.t 21) (.k (.int .i64 0))) [21]]
@[reducible] def fQUnder_r7 : List (DOper × List Nat) := [
  o1 23 (.mv (.t 7)) [7],
  o1 24 (.bin false .add (.t 23) (.k (.int .i64 32768))) [23],
  o1 7 (.mv (.t 24)) [24]]
@[reducible] def fQUnder_r8 : List (DOper × List Nat) := [
  o1 5 (.mv (.k (.int .i64 1))) []]
@[reducible] def fQUnder_k1 : KCode := (.kill [5, 22] (.seq (.reg fQUnder_r7) (.reg fQUnder_r8)))
@[reducible] def fQUnder_r9 : List (DOper × List Nat) := [
  o1 25 (.mv (.t 6)) [],
  o1 26 (.mv (.t 7)) [7],
  o1 27 (.idxA 17 1 (.t 2) (.t 25)) [25],
  (⟨⟨none, none, .store 1 (.t 27) (.t 26)⟩, 0, []⟩, [26, 27])]
@[reducible] def fQUnder_r10 : List (DOper × List Nat) := [
  o1 10 (.mv (.t 6)) [6],
  o1 11 (.bin false .add (.t 10) (.k (.int .i64 1))) [10],
  o1 6 (.mv (.t 11)) [11]]
/-- live: [2, 3, 4, 5, 6] -/
@[reducible] def fQUnder_l2 : KCode := (.seq (.seq (.reg fQUnder_r3) (.cond (.t 9) (.kill [9] .skip) fQUnder_k0)) (.kill [8, 9] (.seq (.block 1 (.seq (.draw fQUnder_r4) (.seq (.reg fQUnder_r5) (.seq (.seq (.reg fQUnder_r6) (.cond (.t 22) fQUnder_k1 (.kill [22] .skip))) (.kill [21, 22, 23, 24] (.reg fQUnder_r9)))))) (.keep [2, 3, 4, 5, 6] (.reg fQUnder_r10)))))
@[reducible] def fQUnder_r11 : List (DOper × List Nat) := [
  o1 28 (.load (some 17) (.t 2)) [2],
  (⟨⟨none, none, .store 17 (.t 4) (.t 28)⟩, 0, []⟩, [28])]
/-- bosun/bosunref05.under -/
@[reducible] def fQUnder : KCode := (.seq (.reg fQUnder_r0) (.seq (.reg fQUnder_r1) (.seq (.seq (.reg fQUnder_r2) (.block 0 (.loop fQUnder_l2))) (.keep [2, 4] (.seq (.reg fQUnder_r11) .ret)))))
@[reducible] def fQUnder_rs : List IRes := [.cell 4 (some 17)]
theorem fQUnder_low : lowFunc Try.prog 120 [] [] = some ⟨fQUnder.bare, fQUnder_rs, 29⟩ := by kernel_rfl

@[reducible] def fQAdd_r0 : List (DOper × List Nat) := [
  o1 2 (.box 55 (.t 0)) [0],
  o1 3 (.box 55 (.t 1)) [1],
  o1 4 (.alloc 55 [(.int .i64 0), (.int .i64 0), (.int .i64 0), (.int .i64 0), (.int .i64 0), (.int .i64 0), (.int .i64 0), (.int .i64 0), (.int .i64 0), (.int .i64 0), (.int .i64 0), (.int .i64 0), (.int .i64 0), (.int .i64 0), (.int .i64 0), (.int .i64 0), (.int .i64 0)]) []]
@[reducible] def fQAdd_r1 : List (DOper × List Nat) := [
  o1 5 (.mv (.k (.int .i64 0))) []]
@[reducible] def fQAdd_r2 : List (DOper × List Nat) := [
  o1 6 (.mv (.t 5)) [],
  o1 7 (.bin false .lss (.t 6) (.k (.int .i64 17))) [6]]
@[reducible] def fQAdd_k0 : KCode := (.keep [2, 4] (.exit 0))
@[reducible] def fQAdd_r3 : List (DOper × List Nat) := [
  o1 10 (.mv (.t 5)) [],
  o2 11 1 (.idxA 17 1 (.t 2) (.t 10)) [],
  o2 12 2 (.load none (.t 11)) [11],
  o2 13 3 (.mv (.t 5)) [],
  o2 14 4 (.idxA 17 1 (.t 3) (.t 13)) [13],
  o2 15 5 (.load none (.t 14)) [14],
  o2 16 6 (.bin false .add (.t 12) (.t 15)) [12, 15],
  o2 17 7 (.idxA 17 1 (.t 2) (.t 10)) [10],
  (⟨⟨none, none, .store 1 (.t 17) (.t 16)⟩, 8, []⟩, [16, 17])]
@[reducible] def fQAdd_r4 : List (DOper × List Nat) := [
  o1 8 (.mv (.t 5)) [5],
  o1 9 (.bin false .add (.t 8) (.k (.int .i64 1))) [8],
  o1 5 (.mv (.t 9)) [9]]
/-- live: [2, 3, 4, 5] -/
@[reducible] def fQAdd_l1 : KCode := (.seq (.seq (.reg fQAdd_r2) (.cond (.t 7) (.kill [7] .skip) fQAdd_k0)) (.kill [6, 7] (.seq (.block 1 (.draw fQAdd_r3)) (.keep [2, 3, 4, 5] (.reg fQAdd_r4)))))
@[reducible] def fQAdd_r5 : List (DOper × List Nat) := [
  o1 18 (.load (some 17) (.t 2)) [2],
  o1 19 (.call 117 [(.t 18)]) [18],
  (⟨⟨none, none, .store 17 (.t 4) (.t 19)⟩, 0, []⟩, [19])]
/-- bosun/bosunref05.Add -/
@[reducible] def fQAdd : KCode := (.seq (.reg fQAdd_r0) (.seq (.seq (.reg fQAdd_r1) (.block 0 (.loop fQAdd_l1))) (.keep [2, 4] (.seq (.reg fQAdd_r5) .ret))))
@[reducible] def fQAdd_rs : List IRes := [.cell 4 (some 17)]
theorem fQAdd_low : lowFunc Try.prog 78 [] [] = some ⟨fQAdd.bare, fQAdd_rs, 20⟩ := by kernel_rfl

@[reducible] def fQNeg_r0 : List (DOper × List Nat) := [
  o1 1 (.box 55 (.t 0)) [0],
  o1 2 (.alloc 55 [(.int .i64 0), (.int .i64 0), (.int .i64 0), (.int .i64 0), (.int .i64 0), (.int .i64 0), (.int .i64 0), (.int .i64 0), (.int .i64 0), (.int .i64 0), (.int .i64 0), (.int .i64 0), (.int .i64 0), (.int .i64 0), (.int .i64 0), (.int .i64 0), (.int .i64 0)]) []]
@[reducible] def fQNeg_r1 : List (DOper × List Nat) := [
  o2 4 1 (.load (some 17) (.t 1)) [1],
  (⟨⟨(some 3), none, .call 73 []⟩, 0, [1]⟩, []),
  o2 5 2 (.call 120 [(.t 3), (.t 4)]) [3, 4],
  o2 6 3 (.call 117 [(.t 5)]) [5],
  (⟨⟨none, none, .store 17 (.t 2) (.t 6)⟩, 4, []⟩, [6])]
/-- bosun/bosunref05.Neg -/
@[reducible] def fQNeg : KCode := (.seq (.reg fQNeg_r0) (.seq (.draw fQNeg_r1) .ret))
@[reducible] def fQNeg_rs : List IRes := [.cell 2 (some 17)]
theorem fQNeg_low : lowFunc Try.prog 80 [] [(1, [1, 0, 2, 3, 4])] = some ⟨fQNeg.bare, fQNeg_rs, 7⟩ := by kernel_rfl

@[reducible] def fQSub_r0 : List (DOper × List Nat) := [
  o1 2 (.box 55 (.t 0)) [0],
  o1 3 (.box 55 (.t 1)) [1],
  o1 4 (.alloc 55 [(.int .i64 0), (.int .i64 0), (.int .i64 0), (.int .i64 0), (.int .i64 0), (.int .i64 0), (.int .i64 0), (.int .i64 0), (.int .i64 0), (.int .i64 0), (.int .i64 0), (.int .i64 0), (.int .i64 0), (.int .i64 0), (.int .i64 0), (.int .i64 0), (.int .i64 0)]) []]
@[reducible] def fQSub_r1 : List (DOper × List Nat) := [
  o1 5 (.load (some 17) (.t 2)) [2],
  o2 6 1 (.load (some 17) (.t 3)) [3],
  (⟨⟨(some 7), none, .call 80 [(.t 6)]⟩, 2, [0]⟩, [6]),
  o2 8 3 (.call 78 [(.t 5), (.t 7)]) [5, 7],
  (⟨⟨none, none, .store 17 (.t 4) (.t 8)⟩, 4, []⟩, [8])]
/-- bosun/bosunref05.Sub -/
@[reducible] def fQSub : KCode := (.seq (.reg fQSub_r0) (.seq (.draw fQSub_r1) .ret))
@[reducible] def fQSub_rs : List IRes := [.cell 4 (some 17)]
theorem fQSub_low : lowFunc Try.prog 76 [] [] = some ⟨fQSub.bare, fQSub_rs, 9⟩ := by kernel_rfl

@[reducible] def fQMul_r0 : List (DOper × List Nat) := [
  o1 2 (.box 55 (.t 0)) [0],
  o1 3 (.box 55 (.t 1)) [1],
  o1 4 (.alloc 55 [(.int .i64 0), (.int .i64 0), (.int .i64 0), (.int .i64 0), (.int .i64 0), (.int .i64 0), (.int .i64 0), (.int .i64 0), (.int .i64 0), (.int .i64 0), (.int .i64 0), (.int .i64 0), (.int .i64 0), (.int .i64 0), (.int .i64 0), (.int .i64 0), (.int .i64 0)]) []]
@[reducible] def fQMul_r1 : List (DOper × List Nat) := [
  o1 5 (.alloc 166 [(.int .i64 0), (.int .i64 0), (.int .i64 0), (.int .i64 0), (.int .i64 0), (.int .i64 0), (.int .i64 0), (.int .i64 0), (.int .i64 0), (.int .i64 0), (.int .i64 0), (.int .i64 0), (.int .i64 0), (.int .i64 0), (.int .i64 0), (.int .i64 0), (.int .i64 0), (.int .i64 0), (.int .i64 0), (.int .i64 0), (.int .i64 0), (.int .i64 0), (.int .i64 0), (.int .i64 0), (.int .i64 0), (.int .i64 0), (.int .i64 0), (.int .i64 0), (.int .i64 0), (.int .i64 0), (.int .i64 0), (.int .i64 0), (.int .i64 0), (.int .i64 0)]) []]
@[reducible] def fQMul_r2 : List (DOper × List Nat) := [
  o1 6 (.mv (.k (.int .i64 0))) []]
@[reducible] def fQMul_r3 : List (DOper × List Nat) := [
  o1 10 (.mv (.t 6)) [],
  o1 11 (.bin false .lss (.t 10) (.k (.int .i64 17))) [10]]
@[reducible] def fQMul_k0 : KCode := (.keep [4, 5] (.exit 0))
@[reducible] def fQMul_r4 : List (DOper × List Nat) := [
  o1 7 (.mv (.k (.int .i64 0))) []]
@[reducible] def fQMul_r5 : List (DOper × List Nat) := [
  o1 14 (.mv (.t 7)) [],
  o1 15 (.bin false .lss (.t 14) (.k (.int .i64 17))) [14]]
@[reducible] def fQMul_k1 : KCode := (.kill [7, 15] (.exit 2))
@[reducible] def fQMul_r6 : List (DOper × List Nat) := [
  o1 18 (.mv (.t 6)) [],
  o2 19 1 (.mv (.t 7)) [],
  o2 20 2 (.bin false .add (.t 18) (.t 19)) [18, 19],
  o2 21 3 (.idxA 34 1 (.t 5) (.t 20)) [],
  o2 22 4 (.load none (.t 21)) [21],
  o2 23 5 (.mv (.t 6)) [],
  o2 24 6 (.idxA 17 1 (.t 2) (.t 23)) [23],
  o2 25 7 (.load none (.t 24)) [24],
  o2 26 8 (.mv (.t 7)) [],
  o2 27 9 (.idxA 17 1 (.t 3) (.t 26)) [26],
  o2 28 10 (.load none (.t 27)) [27],
  o2 29 11 (.bin false .mul (.t 25) (.t 28)) [25, 28],
  o2 30 12 (.bin false .add (.t 22) (.t 29)) [22, 29],
  o2 31 13 (.idxA 34 1 (.t 5) (.t 20)) [20],
  (⟨⟨none, none, .store 1 (.t 31) (.t 30)⟩, 14, []⟩, [30, 31])]
@[reducible] def fQMul_r7 : List (DOper × List Nat) := [
  o1 16 (.mv (.t 7)) [7],
  o1 17 (.bin false .add (.t 16) (.k (.int .i64 1))) [16],
  o1 7 (.mv (.t 17)) [17]]
/-- live: [2, 3, 4, 5, 6, 7] -/
@[reducible] def fQMul_l2 : KCode := (.seq (.seq (.reg fQMul_r5) (.cond (.t 15) (.kill [15] .skip) fQMul_k1)) (.kill [14, 15] (.seq (.block 3 (.draw fQMul_r6)) (.keep [2, 3, 4, 5, 6, 7] (.reg fQMul_r7)))))
@[reducible] def fQMul_r8 : List (DOper × List Nat) := [
  o1 12 (.mv (.t 6)) [6],
  o1 13 (.bin false .add (.t 12) (.k (.int .i64 1))) [12],
  o1 6 (.mv (.t 13)) [13]]
/-- live: [2, 3, 4, 5, 6] -/
@[reducible] def fQMul_l3 : KCode := (.seq (.seq (.reg fQMul_r3) (.cond (.t 11) (.kill [11] .skip) fQMul_k0)) (.kill [10, 11] (.seq (.block 1 (.seq (.reg fQMul_r4) (.block 2 (.loop fQMul_l2)))) (.keep [2, 3, 4, 5, 6] (.reg fQMul_r8)))))
@[reducible] def fQMul_r9 : List (DOper × List Nat) := [
  o1 8 (.alloc 55 [(.int .i64 0), (.int .i64 0), (.int .i64 0), (.int .i64 0), (.int .i64 0), (.int .i64 0), (.int .i64 0), (.int .i64 0), (.int .i64 0), (.int .i64 0), (.int .i64 0), (.int .i64 0), (.int .i64 0), (.int .i64 0), (.int .i64 0), (.int .i64 0), (.int .i64 0)]) []]
@[reducible] def fQMul_r10 : List (DOper × List Nat) := [
  o1 9 (.mv (.k (.int .i64 0))) []]
@[reducible] def fQMul_r11 : List (DOper × List Nat) := [
  o1 32 (.mv (.t 9)) [],
  o1 33 (.bin false .lss (.t 32) (.k (.int .i64 17))) [32]]
@[reducible] def fQMul_k4 : KCode := (.keep [4, 8] (.exit 4))
@[reducible] def fQMul_r12 : List (DOper × List Nat) := [
  o1 36 (.mv (.t 9)) [],
  o2 37 1 (.mv (.t 9)) [],
  o2 38 2 (.idxA 34 1 (.t 5) (.t 37)) [37],
  o2 39 3 (.load none (.t 38)) [38],
  o2 40 4 (.mv (.t 9)) [],
  o2 41 5 (.bin false .add (.t 40) (.k (.int .i64 17))) [40],
  o2 42 6 (.idxA 34 1 (.t 5) (.t 41)) [41],
  o2 43 7 (.load none (.t 42)) [42],
  o2 44 8 (.bin false .mul (.k (.int .i64 19)) (.t 43)) [43],
  o2 45 9 (.bin false .add (.t 39) (.t 44)) [39, 44],
  o2 46 10 (.idxA 17 1 (.t 8) (.t 36)) [36],
  (⟨⟨none, none, .store 1 (.t 46) (.t 45)⟩, 11, []⟩, [45, 46])]
@[reducible] def fQMul_r13 : List (DOper × List Nat) := [
  o1 34 (.mv (.t 9)) [9],
  o1 35 (.bin false .add (.t 34) (.k (.int .i64 1))) [34],
  o1 9 (.mv (.t 35)) [35]]
/-- live: [4, 5, 8, 9] -/
@[reducible] def fQMul_l5 : KCode := (.seq (.seq (.reg fQMul_r11) (.cond (.t 33) (.kill [33] .skip) fQMul_k4)) (.kill [32, 33] (.seq (.block 5 (.draw fQMul_r12)) (.keep [4, 5, 8, 9] (.reg fQMul_r13)))))
@[reducible] def fQMul_r14 : List (DOper × List Nat) := [
  o1 47 (.load (some 17) (.t 8)) [8],
  o1 48 (.call 117 [(.t 47)]) [47],
  (⟨⟨none, none, .store 17 (.t 4) (.t 48)⟩, 0, []⟩, [48])]
/-- bosun/bosunref05.Mul -/
@[reducible] def fQMul : KCode := (.seq (.reg fQMul_r0) (.seq (.reg fQMul_r1) (.seq (.seq (.reg fQMul_r2) (.block 0 (.loop fQMul_l3))) (.keep [4, 5] (.seq (.reg fQMul_r9) (.seq (.seq (.reg fQMul_r10) (.block 4 (.loop fQMul_l5))) (.keep [4, 8] (.seq (.reg fQMul_r14) .ret))))))))
@[reducible] def fQMul_rs : List IRes := [.cell 4 (some 17)]
theorem fQMul_low : lowFunc Try.prog 75 [] [] = some ⟨fQMul.bare, fQMul_rs, 49⟩ := by kernel_rfl

@[reducible] def fQPower_r0 : List (DOper × List Nat) := [
  o1 2 (.box 55 (.t 0)) [0],
  o1 3 (.box 48 (.t 1)) [1],
  o1 4 (.alloc 55 [(.int .i64 0), (.int .i64 0), (.int .i64 0), (.int .i64 0), (.int .i64 0), (.int .i64 0), (.int .i64 0), (.int .i64 0), (.int .i64 0), (.int .i64 0), (.int .i64 0), (.int .i64 0), (.int .i64 0), (.int .i64 0), (.int .i64 0), (.int .i64 0), (.int .i64 0)]) []]
@[reducible] def fQPower_r1 : List (DOper × List Nat) := [
  o1 7 (.call 74 [(.k (.int .i64 1))]) [],
  o1 5 (.alloc 55 [(.int .i64 0), (.int .i64 0), (.int .i64 0), (.int .i64 0), (.int .i64 0), (.int .i64 0), (.int .i64 0), (.int .i64 0), (.int .i64 0), (.int .i64 0), (.int .i64 0), (.int .i64 0), (.int .i64 0), (.int .i64 0), (.int .i64 0), (.int .i64 0), (.int .i64 0)]) [],
  (⟨⟨none, none, .store 17 (.t 5) (.t 7)⟩, 0, []⟩, [7])]
@[reducible] def fQPower_r2 : List (DOper × List Nat) := [
  o1 6 (.mv (.k (.int .i64 255))) []]
@[reducible] def fQPower_r3 : List (DOper × List Nat) := [
  o1 8 (.mv (.t 6)) [],
  o1 9 (.bin false .geq (.t 8) (.k (.int .i64 0))) [8]]
@[reducible] def fQPower_k0 : KCode := (.keep [4, 5] (.exit 0))
@[reducible] def fQPower_r4 : List (DOper × List Nat) := [
  o1 12 (.load (some 17) (.t 5)) [],
  o1 13 (.load (some 17) (.t 5)) [],
  o1 14 (.call 75 [(.t 12), (.t 13)]) [12, 13],
  (⟨⟨none, none, .store 17 (.t 5) (.t 14)⟩, 0, []⟩, [14])]
@[reducible] def fQPower_r5 : List (DOper × List Nat) := [
  o1 15 (.mv (.t 6)) [],
  o1 16 (.bin false .quo (.t 15) (.k (.int .i64 64))) [15],
  o1 17 (.idxA 4 1 (.t 3) (.t 16)) [16],
  o1 18 (.load none (.t 17)) [17],
  o1 19 (.mv (.t 6)) [],
  o1 20 (.bin false .rem (.t 19) (.k (.int .i64 64))) [19],
  o1 21 (.bin false .shr (.t 18) (.t 20)) [18, 20],
  o1 22 (.bin false .rem (.t 21) (.k (.int .u64 2))) [21],
  o1 23 (.bin false .eql (.t 22) (.k (.int .u64 1))) [22]]
@[reducible] def fQPower_r6 : List (DOper × List Nat) := [
  o1 24 (.load (some 17) (.t 5)) [],
  o1 25 (.load (some 17) (.t 2)) [],
  o1 26 (.call 75 [(.t 24), (.t 25)]) [24, 25],
  (⟨⟨none, none, .store 17 (.t 5) (.t 26)⟩, 0, []⟩, [26])]
@[reducible] def fQPower_k1 : KCode := (.kill [23] (.reg fQPower_r6))
@[reducible] def fQPower_r7 : List (DOper × List Nat) := [
  o1 10 (.mv (.t 6)) [6],
  o1 11 (.bin false .sub (.t 10) (.k (.int .i64 1))) [10],
  o1 6 (.mv (.t 11)) [11]]
/-- live: [2, 3, 4, 5, 6] -/
@[reducible] def fQPower_l2 : KCode := (.seq (.seq (.reg fQPower_r3) (.cond (.t 9) (.kill [9] .skip) fQPower_k0)) (.kill [8, 9] (.seq (.block 1 (.seq (.reg fQPower_r4) (.seq (.reg fQPower_r5) (.cond (.t 23) fQPower_k1 (.kill [23] .skip))))) (.keep [2, 3, 4, 5, 6] (.reg fQPower_r7)))))
@[reducible] def fQPower_r8 : List (DOper × List Nat) := [
  o1 27 (.load (some 17) (.t 5)) [5],
  (⟨⟨none, none, .store 17 (.t 4) (.t 27)⟩, 0, []⟩, [27])]
/-- bosun/bosunref05.Power -/
@[reducible] def fQPower : KCode := (.seq (.reg fQPower_r0) (.seq (.reg fQPower_r1) (.seq (.seq (.reg fQPower_r2) (.block 0 (.loop fQPower_l2))) (.keep [4, 5] (.seq (.reg fQPower_r8) .ret)))))
@[reducible] def fQPower_rs : List IRes := [.cell 4 (some 17)]
theorem fQPower_low : lowFunc Try.prog 118 [] [] = some ⟨fQPower.bare, fQPower_rs, 28⟩ := by kernel_rfl

@[reducible] def fQInvert_r0 : List (DOper × List Nat) := [
  o1 1 (.box 55 (.t 0)) [0],
  o1 2 (.alloc 55 [(.int .i64 0), (.int .i64 0), (.int .i64 0), (.int .i64 0), (.int .i64 0), (.int .i64 0), (.int .i64 0), (.int .i64 0), (.int .i64 0), (.int .i64 0), (.int .i64 0), (.int .i64 0), (.int .i64 0), (.int .i64 0), (.int .i64 0), (.int .i64 0), (.int .i64 0)]) []]
@[reducible] def fQInvert_r1 : List (DOper × List Nat) := [
  o1 3 (.load (some 17) (.t 1)) [1],
  (⟨⟨(some 4), none, .call 73 []⟩, 1, [0]⟩, []),
  (⟨⟨(some 5), none, .call 74 [(.k (.int .i64 2))]⟩, 2, [0]⟩, []),
  (⟨⟨(some 6), none, .call 120 [(.t 4), (.t 5)]⟩, 3, [0]⟩, [4, 5]),
  (⟨⟨(some 7), none, .call 119 [(.t 6)]⟩, 4, [0]⟩, [6]),
  o2 8 5 (.call 118 [(.t 3), (.t 7)]) [3, 7],
  (⟨⟨none, none, .store 17 (.t 2) (.t 8)⟩, 6, []⟩, [8])]
/-- bosun/bosunref05.Invert -/
@[reducible] def fQInvert : KCode := (.seq (.reg fQInvert_r0) (.seq (.draw fQInvert_r1) .ret))
@[reducible] def fQInvert_rs : List IRes := [.cell 2 (some 17)]
theorem fQInvert_low : lowFunc Try.prog 77 [] [] = some ⟨fQInvert.bare, fQInvert_rs, 9⟩ := by kernel_rfl

end Go.Proofs.Ythgibibeoapfbaa
