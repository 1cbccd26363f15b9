/-
  Codes, contracts and laws, part 1.
-/
import Derived.Test.YthgibibeoapfbaaGreatLibA
import Derived.Test.YthgibibeoapfbaaGreatRows
set_option linter.unusedSimpArgs false
set_option linter.unnecessarySimpa false
set_option linter.unusedVariables false
set_option linter.unusedSectionVars false
namespace Go.Fw
attribute [simp] bv cleanL_bv toBytes_bv ltL_bv atF_drop WS_at_bytes W_nil W_skip W_seq W_reg W_draw W_drawP W_kill W_keep W_block W_blk W_exit W_ret WX_blk WX_c WX_lp WX_li W_li W_condT W_condF W_cond WC_true WC_false
  WR_nil WR_cons WR_o1 WR_o2 o1_chk o2_chk WR_grd WG_tt WG_ff WG_tf WG_ft WG_none WS_some WS_ok1 WSr_no WSr_some WSr_ok1 WSr_at_bytes WH_some WHA_some chkF_cons chkF_nil chkE_some chkE_ok1 chkE_at evF WO_mv WO_pick WO_bin WO_isNil WO_eqA WO_un WO_convI WO_toStr WO_ofStr WO_build WO_buildF WO_load WO_nilCheck WO_fieldAddr WO_field WO_idxA WO_idxS
  WO_ixA WO_slS WO_slA WO_len WO_lenK WO_appF WO_extract WO_s2a WO_iface WO_min WO_max WO_alloc WO_box WO_buildO WO_store WO_appO WO_copy WO_makeS WO_allocA WO_makeA WO_cvt cvtF_slice WO_look lookF_map alAF mkAF WO_func bind1_v bind2_v bindH_v bindH2_v bindS_v okO_v pickO_t pickO_f
  Env.keep Env.get Env.set Env.del Env.dels Env.setO Env.opd Env.opds Env.opdO Env.parts intF aggF fillA splice cleanL AV.clean bndF fldF_one fldF_many toStrF boxF buildOF
  loadF_rptr loadF_rptrN atF_zero atF_succ blk_cons_zero blk_cons_succ loadF_p loadF_pN atB_some atBN_some retPost resL one
  okc_bool cells_bool notStr_bool okc_int cells_int notStr_int okc_str cells_str notStr_str okc_nil cells_nil notStr_nil okc_ptr cells_ptr notStr_ptr okc_rptr cells_rptr notStr_rptr okc_slice cells_slice notStr_slice 
  okc_list cells_list notStr_list okc_func cells_func notStr_func okc_nilFunc cells_nilFunc notStr_nilFunc okc_iface cells_iface notStr_iface okc_nilIface cells_nilIface notStr_nilIface okc_agg cells_agg notStr_agg 
  okc_tuple cells_tuple notStr_tuple lenF_slice lenF_list lenF_str faF_ptr faF_rptr idxSF_slice idxSF_list idxAF_ptr idxAF_rptr ixAF_many ixAF_one convF_int unF_neg unF_xor unF_not nilF_0nil nilF_0ptr nilF_0rptr nilF_1 
  nilF_2nil nilF_2f nilF_3nil nilF_3f binF_int binF_beq binF_bne binF_sadd binF_seq binF_sne sliceCells_list sliceCells_str sliceCells_slice cutC_some szAV_list szAV_str szAV_slice oneSl_list oneSl_slice slSF_sliceS 
  slSF_sliceN slSF_list slAF_rptr slAF_ptr appFF_list appOF_list appOF_sliceN appOF_sliceS storeF_ptr copyF_slice extF_tuple s2aF_slice s2aF_list nchkF_ptr nchkF_rptr nchkF_f mmF_int ofStrF_str mkSF_int eqAF_agg
attribute [simp] lendAll
attribute [congr] W_cg WR_cg WO_cg WS_cg WSr_cg WH_cg WHA_cg WG_cg WC_cg WX_cg
attribute [simp] Env.has AV.wkr wkrL AV.wkr_refl wkrL_refl AV.ltI ltL leHW hasW Env.lt AV.ids idsL AV.sub subL AV.ren AV.frz frzS frzP frzE frzL Heap.frz Blk.frz Blk.ren renL rnS rnP hasR leR idsL_bv subL_bv
attribute [simp] cleanL_take cleanL_drop ltL_take ltL_drop idsL_take idsL_drop subL_take subL_drop cleanL_append ltL_append idsL_append subL_append
attribute [simp] renE mvN mvH
attribute [simp] fwd backH putL bwd
attribute [simp] u8i u8e List.idxOf_cons
attribute [simp] hasRW leRW
end Go.Fw
namespace Go.Proofs.YthgibibeoapfbaaGreat
open Go.Fw
set_option maxRecDepth 100000
set_option maxHeartbeats 4000000
@[reducible] def fMul64 : KCode := by
  refine (?f : lowF Tryz.progTables Tryz.f109 [] [] = ?c → annF false [] [] ?c = ?k → KCode) ?h ?i
  case h => cbv; exact rfl
  case i => cbv; exact rfl
  exact fun _ _ => ?k
theorem fMul64_low : lowFunc Tryz.prog 109 [] [] = some ⟨fMul64.bare, [.tmp 4, .tmp 5], 51⟩ := by kernel_rfl
@[reducible] def fFdModulus : KCode := by
  refine (?f : lowF Tryz.progTables Tryz.f100 [] [] = ?c → annF false [] [] ?c = ?k → KCode) ?h ?i
  case h => cbv; exact rfl
  case i => cbv; exact rfl
  exact fun _ _ => ?k
theorem fFdModulus_low : lowFunc Tryz.prog 100 [] [] = some ⟨fFdModulus.bare, [.cell 0 (some 4)], 2⟩ := by kernel_rfl
@[reducible] def fFdSmall : KCode := by
  refine (?f : lowF Tryz.progTables Tryz.f79 [] [] = ?c → annF false [] [] ?c = ?k → KCode) ?h ?i
  case h => cbv; exact rfl
  case i => cbv; exact rfl
  exact fun _ _ => ?k
theorem fFdSmall_low : lowFunc Tryz.prog 79 [] [] = some ⟨fFdSmall.bare, [.cell 2 (some 4)], 5⟩ := by kernel_rfl
@[reducible] def fFdLess : KCode := by
  refine (?f : lowF Tryz.progTables Tryz.f99 [] [] = ?c → annF false [] [] ?c = ?k → KCode) ?h ?i
  case h => cbv; exact rfl
  case i => cbv; exact rfl
  exact fun _ _ => ?k
theorem fFdLess_low : lowFunc Tryz.prog 99 [] [] = some ⟨fFdLess.bare, [.tmp 4], 24⟩ := by kernel_rfl
@[reducible] def fFdMinus : KCode := by
  refine (?f : lowF Tryz.progTables Tryz.f105 [] [] = ?c → annF false [] [] ?c = ?k → KCode) ?h ?i
  case h => cbv; exact rfl
  case i => cbv; exact rfl
  exact fun _ _ => ?k
theorem fFdMinus_low : lowFunc Tryz.prog 105 [] [] = some ⟨fFdMinus.bare, [.cell 4 (some 4)], 26⟩ := by kernel_rfl
@[reducible] def fFdReduced : KCode := by
  refine (?f : lowF Tryz.progTables Tryz.f110 [] [] = ?c → annF false [] [] ?c = ?k → KCode) ?h ?i
  case h => cbv; exact rfl
  case i => cbv; exact rfl
  exact fun _ _ => ?k
theorem fFdReduced_low : lowFunc Tryz.prog 110 [] [] = some ⟨fFdReduced.bare, [.cell 2 (some 4)], 11⟩ := by kernel_rfl
@[reducible] def fFdFolded : KCode := by
  refine (?f : lowF Tryz.progTables Tryz.f103 [] [] = ?c → annF false [] [] ?c = ?k → KCode) ?h ?i
  case h => cbv; exact rfl
  case i => cbv; exact rfl
  exact fun _ _ => ?k
theorem fFdFolded_low : lowFunc Tryz.prog 103 [] [] = some ⟨fFdFolded.bare, [.cell 4 (some 4)], 51⟩ := by kernel_rfl
@[reducible] def fFdDecode : KCode := by
  refine (?f : lowF Tryz.progTables Tryz.f78 [] [] = ?c → annF false [] [] ?c = ?k → KCode) ?h ?i
  case h => cbv; exact rfl
  case i => cbv; exact rfl
  exact fun _ _ => ?k
theorem fFdDecode_low : lowFunc Tryz.prog 78 [] [] = some ⟨fFdDecode.bare, [.cell 2 (some 4), .tmp 3], 31⟩ := by kernel_rfl
@[reducible] def fFdAdd : KCode := by
  refine (?f : lowF Tryz.progTables Tryz.f82 [] [] = ?c → annF false [] [] ?c = ?k → KCode) ?h ?i
  case h => cbv; exact rfl
  case i => cbv; exact rfl
  exact fun _ _ => ?k
theorem fFdAdd_low : lowFunc Tryz.prog 82 [] [] = some ⟨fFdAdd.bare, [.cell 2 (some 4)], 36⟩ := by kernel_rfl
@[reducible] def fFdNeg : KCode := by
  refine (?f : lowF Tryz.progTables Tryz.f86 [] [(3, [1, 0, 2, 3])] = ?c → annF false [] [] ?c = ?k → KCode) ?h ?i
  case h => cbv; exact rfl
  case i => cbv; exact rfl
  exact fun _ _ => ?k
theorem fFdNeg_low : lowFunc Tryz.prog 86 [] [(3, [1, 0, 2, 3])] = some ⟨fFdNeg.bare, [.cell 2 (some 4)], 10⟩ := by kernel_rfl
@[reducible] def fFdSub : KCode := by
  refine (?f : lowF Tryz.progTables Tryz.f81 [] [] = ?c → annF false [] [] ?c = ?k → KCode) ?h ?i
  case h => cbv; exact rfl
  case i => cbv; exact rfl
  exact fun _ _ => ?k
theorem fFdSub_low : lowFunc Tryz.prog 81 [] [] = some ⟨fFdSub.bare, [.cell 4 (some 4)], 10⟩ := by kernel_rfl
@[reducible] def fFdMul : KCode := by
  refine (?f : lowF Tryz.progTables Tryz.f80 [] [] = ?c → annF false [] [] ?c = ?k → KCode) ?h ?i
  case h => cbv; exact rfl
  case i => cbv; exact rfl
  exact fun _ _ => ?k
theorem fFdMul_low : lowFunc Tryz.prog 80 [] [] = some ⟨fFdMul.bare, [.cell 2 (some 4)], 18⟩ := by kernel_rfl
@[reducible] def fFdTimes : KCode := by
  refine (?f : lowF Tryz.progTables Tryz.f101 [] [] = ?c → annF false [] [] ?c = ?k → KCode) ?h ?i
  case h => cbv; exact rfl
  case i => cbv; exact rfl
  exact fun _ _ => ?k
theorem fFdTimes_low : lowFunc Tryz.prog 101 [] [] = some ⟨fFdTimes.bare, [.cell 4 (some 4)], 107⟩ := by kernel_rfl
@[reducible] def fFdPower : KCode := by
  refine (?f : lowF Tryz.progTables Tryz.f104 [] [] = ?c → annF false [] [] ?c = ?k → KCode) ?h ?i
  case h => cbv; exact rfl
  case i => cbv; exact rfl
  exact fun _ _ => ?k
theorem fFdPower_low : lowFunc Tryz.prog 104 [] [] = some ⟨fFdPower.bare, [.cell 4 (some 4)], 28⟩ := by kernel_rfl
@[reducible] def fFdInvert : KCode := by
  refine (?f : lowF Tryz.progTables Tryz.f84 [] [] = ?c → annF false [] [] ?c = ?k → KCode) ?h ?i
  case h => cbv; exact rfl
  case i => cbv; exact rfl
  exact fun _ _ => ?k
theorem fFdInvert_low : lowFunc Tryz.prog 84 [] [] = some ⟨fFdInvert.bare, [.cell 2 (some 4)], 8⟩ := by kernel_rfl
@[reducible] def fFdRoot_r0 : List (DOper × List Nat) := [
  o1 1 (.box 100 (.t 0)) [0],
  o1 2 (.alloc 100 [(.int .u64 0), (.int .u64 0), (.int .u64 0), (.int .u64 0)]) [],
  o1 3 (.mv (.k (.bool false))) [3]]
@[reducible] def fFdRoot_r1 : List (DOper × List Nat) := [
  o1 5 (.load (some 4) (.t 1)) [],
  o1 6 (.build [(.int .u64 0), (.int .u64 0), (.int .u64 0), (.int .u64 0)] [(0, 1, (.k (.int .u64 18446744073709551614))), (1, 1, (.k (.int .u64 18446744073709551615))), (2, 1, (.k (.int .u64 18446744073709551615))), (3, 1, (.k (.int .u64 1152921504606846975)))]) [],
  o1 7 (.call 104 [(.t 5), (.t 6)]) [5, 6],
  o1 4 (.alloc 100 [(.int .u64 0), (.int .u64 0), (.int .u64 0), (.int .u64 0)]) [],
  (⟨⟨none, none, .store 4 (.t 4) (.t 7)⟩, 0, []⟩, [7])]
@[reducible] def fFdRoot_r2 : List (DOper × List Nat) := [
  o1 8 (.load (some 4) (.t 4)) [],
  o2 9 1 (.load (some 4) (.t 4)) [],
  o2 11 3 (.load (some 4) (.t 1)) [],
  (⟨⟨(some 10), none, .call 101 [(.t 8), (.t 9)]⟩, 2, [3]⟩, [8, 9]),
  o2 12 4 (.eqA true [.u64, .u64, .u64, .u64] (.t 10) (.t 11)) [10, 11]]
@[reducible] def fFdRoot_r3 : List (DOper × List Nat) := [
  o1 13 (.load (some 4) (.t 4)) [],
  o1 14 (.build [(.int .u64 0), (.int .u64 0), (.int .u64 0), (.int .u64 0)] [(0, 1, (.k (.int .u64 14190309331451158704))), (1, 1, (.k (.int .u64 3405592160176694392))), (2, 1, (.k (.int .u64 3120150775007532967))), (3, 1, (.k (.int .u64 3135389899092516619)))]) [],
  o1 15 (.call 101 [(.t 13), (.t 14)]) [13, 14],
  (⟨⟨none, none, .store 4 (.t 4) (.t 15)⟩, 0, []⟩, [15])]
@[reducible] def fFdRoot_k0 : KCode := (.kill [12] (.reg fFdRoot_r3))
@[reducible] def fFdRoot_r4 : List (DOper × List Nat) := [
  o1 16 (.load (some 4) (.t 4)) [],
  o2 17 1 (.load (some 4) (.t 4)) [],
  o2 19 3 (.load (some 4) (.t 1)) [1],
  (⟨⟨(some 18), none, .call 101 [(.t 16), (.t 17)]⟩, 2, [3]⟩, [16, 17]),
  o2 20 4 (.eqA true [.u64, .u64, .u64, .u64] (.t 18) (.t 19)) [18, 19]]
@[reducible] def fFdRoot_r5 : List (DOper × List Nat) := [
  o1 21 (.build [(.int .u64 0), (.int .u64 0), (.int .u64 0), (.int .u64 0)] []) [],
  (⟨⟨none, none, .store 4 (.t 2) (.t 21)⟩, 0, []⟩, [21]),
  o1 3 (.mv (.k (.bool false))) []]
@[reducible] def fFdRoot_k1 : KCode := (.keep [2] (.seq (.reg fFdRoot_r5) .ret))
@[reducible] def fFdRoot_r6 : List (DOper × List Nat) := [
  o1 22 (.load (some 4) (.t 4)) [],
  o1 23 (.call 106 [(.t 22)]) [22]]
@[reducible] def fFdRoot_r7 : List (DOper × List Nat) := [
  o1 24 (.load (some 4) (.t 4)) [],
  o1 25 (.call 86 [(.t 24)]) [24],
  (⟨⟨none, none, .store 4 (.t 4) (.t 25)⟩, 0, []⟩, [25])]
@[reducible] def fFdRoot_k2 : KCode := (.kill [23] (.reg fFdRoot_r7))
@[reducible] def fFdRoot_r8 : List (DOper × List Nat) := [
  o1 26 (.load (some 4) (.t 4)) [4],
  (⟨⟨none, none, .store 4 (.t 2) (.t 26)⟩, 0, []⟩, [26]),
  o1 3 (.mv (.k (.bool true))) []]
@[reducible] def fFdRoot : KCode := (.seq (.reg fFdRoot_r0) (.seq (.reg fFdRoot_r1) (.seq (.seq (.draw fFdRoot_r2) (.cond (.t 12) fFdRoot_k0 (.kill [12] .skip))) (.keep [1, 2, 4] (.seq (.seq (.draw fFdRoot_r4) (.cond (.t 20) fFdRoot_k1 (.kill [20] .skip))) (.keep [2, 4] (.seq (.seq (.reg fFdRoot_r6) (.cond (.t 23) fFdRoot_k2 (.kill [23] .skip))) (.keep [2, 4] (.seq (.reg fFdRoot_r8) .ret)))))))))
@[reducible] def fFdRoot_rs : List IRes := [.cell 2 (some 4), .tmp 3]
theorem fFdRoot_low : lowFunc Tryz.prog 85 [] [(2, [0, 1, 3, 2, 4]), (4, [0, 1, 3, 2, 4])] = some ⟨fFdRoot.bare, fFdRoot_rs, 27⟩ := by kernel_rfl
@[reducible] def fFdOdd : KCode := by
  refine (?f : lowF Tryz.progTables Tryz.f106 [] [] = ?c → annF false [] [] ?c = ?k → KCode) ?h ?i
  case h => cbv; exact rfl
  case i => cbv; exact rfl
  exact fun _ _ => ?k
theorem fFdOdd_low : lowFunc Tryz.prog 106 [] [] = some ⟨fFdOdd.bare, [.tmp 2], 7⟩ := by kernel_rfl
@[reducible] def fQP : KCode := by
  refine (?f : lowF Tryz.progTables Tryz.f72 [] [] = ?c → annF false [] [] ?c = ?k → KCode) ?h ?i
  case h => cbv; exact rfl
  case i => cbv; exact rfl
  exact fun _ _ => ?k
theorem fQP_low : lowFunc Tryz.prog 72 [] [] = some ⟨fQP.bare, [.cell 0 (some 17)], 11⟩ := by kernel_rfl
@[reducible] def fQLess : KCode := by
  refine (?f : lowF Tryz.progTables Tryz.f76 [] [] = ?c → annF false [] [] ?c = ?k → KCode) ?h ?i
  case h => cbv; exact rfl
  case i => cbv; exact rfl
  exact fun _ _ => ?k
theorem fQLess_low : lowFunc Tryz.prog 76 [] [] = some ⟨fQLess.bare, [.tmp 4], 24⟩ := by kernel_rfl
@[reducible] def fQFromBytes : KCode := by
  refine (?f : lowF Tryz.progTables Tryz.f75 [] [] = ?c → annF false [] [] ?c = ?k → KCode) ?h ?i
  case h => cbv; exact rfl
  case i => cbv; exact rfl
  exact fun _ _ => ?k
theorem fQFromBytes_low : lowFunc Tryz.prog 75 [] [] = some ⟨fQFromBytes.bare, [.cell 2 (some 17), .tmp 3], 32⟩ := by kernel_rfl
@[reducible] def fQBytes : KCode := by
  refine (?f : lowF Tryz.progTables Tryz.f37 [] [] = ?c → annF false [] [] ?c = ?k → KCode) ?h ?i
  case h => cbv; exact rfl
  case i => cbv; exact rfl
  exact fun _ _ => ?k
theorem fQBytes_low : lowFunc Tryz.prog 37 [] [] = some ⟨fQBytes.bare, [.cell 2 (some 32)], 28⟩ := by kernel_rfl
@[reducible] def fQLimbs : KCode := by
  refine (?f : lowF Tryz.progTables Tryz.f70 [] [] = ?c → annF false [] [] ?c = ?k → KCode) ?h ?i
  case h => cbv; exact rfl
  case i => cbv; exact rfl
  exact fun _ _ => ?k
theorem fQLimbs_low : lowFunc Tryz.prog 70 [] [] = some ⟨fQLimbs.bare, [.cell 2 (some 4)], 26⟩ := by kernel_rfl
@[reducible] def fQSmall : KCode := by
  refine (?f : lowF Tryz.progTables Tryz.f42 [] [] = ?c → annF false [] [] ?c = ?k → KCode) ?h ?i
  case h => cbv; exact rfl
  case i => cbv; exact rfl
  exact fun _ _ => ?k
theorem fQSmall_low : lowFunc Tryz.prog 42 [] [] = some ⟨fQSmall.bare, [.cell 2 (some 17)], 8⟩ := by kernel_rfl
@[reducible] def fQSettle : KCode := by
  refine (?f : lowF Tryz.progTables Tryz.f73 [] [] = ?c → annF false [] [] ?c = ?k → KCode) ?h ?i
  case h => cbv; exact rfl
  case i => cbv; exact rfl
  exact fun _ _ => ?k
theorem fQSettle_low : lowFunc Tryz.prog 73 [] [] = some ⟨fQSettle.bare, [.cell 2 (some 17)], 40⟩ := by kernel_rfl
@[reducible] def fQUnder : KCode := by
  refine (?f : lowF Tryz.progTables Tryz.f71 [] [] = ?c → annF false [] [] ?c = ?k → KCode) ?h ?i
  case h => cbv; exact rfl
  case i => cbv; exact rfl
  exact fun _ _ => ?k
theorem fQUnder_low : lowFunc Tryz.prog 71 [] [] = some ⟨fQUnder.bare, [.cell 4 (some 17)], 29⟩ := by kernel_rfl
@[reducible] def fQAdd : KCode := by
  refine (?f : lowF Tryz.progTables Tryz.f43 [] [] = ?c → annF false [] [] ?c = ?k → KCode) ?h ?i
  case h => cbv; exact rfl
  case i => cbv; exact rfl
  exact fun _ _ => ?k
theorem fQAdd_low : lowFunc Tryz.prog 43 [] [] = some ⟨fQAdd.bare, [.cell 4 (some 17)], 20⟩ := by kernel_rfl
@[reducible] def fQNeg : KCode := by
  refine (?f : lowF Tryz.progTables Tryz.f41 [] [(1, [1, 0, 2, 3, 4])] = ?c → annF false [] [] ?c = ?k → KCode) ?h ?i
  case h => cbv; exact rfl
  case i => cbv; exact rfl
  exact fun _ _ => ?k
theorem fQNeg_low : lowFunc Tryz.prog 41 [] [(1, [1, 0, 2, 3, 4])] = some ⟨fQNeg.bare, [.cell 2 (some 17)], 7⟩ := by kernel_rfl
@[reducible] def fQSub : KCode := by
  refine (?f : lowF Tryz.progTables Tryz.f74 [] [] = ?c → annF false [] [] ?c = ?k → KCode) ?h ?i
  case h => cbv; exact rfl
  case i => cbv; exact rfl
  exact fun _ _ => ?k
theorem fQSub_low : lowFunc Tryz.prog 74 [] [] = some ⟨fQSub.bare, [.cell 4 (some 17)], 9⟩ := by kernel_rfl
@[reducible] def fQMul : KCode := by
  refine (?f : lowF Tryz.progTables Tryz.f36 [] [] = ?c → annF false [] [] ?c = ?k → KCode) ?h ?i
  case h => cbv; exact rfl
  case i => cbv; exact rfl
  exact fun _ _ => ?k
theorem fQMul_low : lowFunc Tryz.prog 36 [] [] = some ⟨fQMul.bare, [.cell 4 (some 17)], 49⟩ := by kernel_rfl
@[reducible] def fQPower : KCode := by
  refine (?f : lowF Tryz.progTables Tryz.f69 [] [] = ?c → annF false [] [] ?c = ?k → KCode) ?h ?i
  case h => cbv; exact rfl
  case i => cbv; exact rfl
  exact fun _ _ => ?k
theorem fQPower_low : lowFunc Tryz.prog 69 [] [] = some ⟨fQPower.bare, [.cell 4 (some 17)], 28⟩ := by kernel_rfl
@[reducible] def fQInvert : KCode := by
  refine (?f : lowF Tryz.progTables Tryz.f35 [] [] = ?c → annF false [] [] ?c = ?k → KCode) ?h ?i
  case h => cbv; exact rfl
  case i => cbv; exact rfl
  exact fun _ _ => ?k
theorem fQInvert_low : lowFunc Tryz.prog 35 [] [] = some ⟨fQInvert.bare, [.cell 2 (some 17)], 9⟩ := by kernel_rfl
end Go.Proofs.YthgibibeoapfbaaGreat
namespace Go.Proofs.YthgibibeoapfbaaGreat
open Go Go.Fw
attribute [local irreducible] W WX WR WO WS WSr WH WHA WG WC FSpec
attribute [local simp] WS_at_q4 WSr_at_q4 WS_at_mx mx_set' loadWP splice_full Int.natCast_inj
theorem p25_lt : p25 < 2 ^ 255 := by decide
theorem q4_p25 : q4 p25 = [.int .u64 18446744073709551597, .int .u64 18446744073709551615, .int .u64 18446744073709551615, .int .u64 9223372036854775807] := by kernel_rfl
theorem fFdModulus_spec : FSpec Tryz.prog 100 [] [] (.agg (q4 p25)) [] := by
  refine FSpec.of_W fFdModulus_low (by simp) ?_
  simp only [initEnv]
  simp
  exact fin_W (by simp [q4_p25])
theorem fFdSmall_spec (n : Nat) (h : n < 2 ^ 64) : FSpec Tryz.prog 79 [.int .u64 (n : Nat)] [] (.agg (q4 n)) [] := by
  have e : q4 n = [.int .u64 (n : Nat), .int .u64 0, .int .u64 0, .int .u64 0] := by
    have := q4_mk (a := n) (b := 0) (c := 0) (d := 0) h (by decide) (by decide) (by decide)
    simpa [mk4] using this
  refine FSpec.of_W fFdSmall_low (by simp) ?_
  simp only [initEnv]
  simp
  exact fin_W (by simp [e])
theorem fFdLess_spec (a b : Nat) (ha : a < 2 ^ 256) (hb : b < 2 ^ 256) : FSpec Tryz.prog 99 [.agg (q4 a), .agg (q4 b)] [] (.bool (decide (a < b))) [] := by
  refine FSpec.of_W fFdLess_low (by simp) ?_
  simp only [initEnv]
  simp
  refine W_loop (X := { i : Nat // i ≤ 4 ∧ a / 2 ^ (64 * i) = b / 2 ^ (64 * i) }) (fun i => [(2, .ptr 0 0), (3, .ptr 1 0), (5, .int .i64 ((i.1 : Int) - 1))]) (fun _ => [some ⟨q4 a, 100, true⟩, some ⟨q4 b, 100, true⟩]) (fun i => i.1) ⟨4, by omega, by omega⟩ retPost_le ?_ ?_
  · exact cut_w (by simp)
  · rintro ⟨i, hi, he⟩
    obtain _ | k := i
    · simp
      refine fin_W ?_
      simp at he
      simp [he]
    · have h4 : k < 4 := by omega
      simp [h4]
      refine ⟨by omega, ?_⟩
      refine WC_ndec (fun h => ?_) (fun h => ?_)
      · simp [h4]
        refine ⟨by omega, ?_⟩
        refine fin_W ?_
        simp
        rw [wd_cmp he (by omega)]
      · simp
        refine ⟨⟨k, by omega, wd_eq he (by omega)⟩, by simp, ?_⟩
        exact cut_w (by simp [wrap64s (n := (k : Int) - 1) (by omega) (by omega)])
theorem add64_q (a b i : Nat) (H : Heap) : FSpec Tryz.prog 102 [.int .u64 (wd a i : Nat), .int .u64 (wd b i : Nat), .int .u64 (car a b i : Nat)] H (.tuple [.int .u64 (wd (a + b) i : Nat), .int .u64 (car a b (i + 1) : Nat)]) H := by
  rw [wd_add, ← car_succ]
  exact FSpec.add64 (fn := Tryz.f102) Tryz.func102 (by kernel_rfl) (by kernel_rfl) (by kernel_rfl) (by kernel_rfl) _ _ _ (car_le a b i)
theorem add64_p (x y : Nat) (H : Heap) : FSpec Tryz.prog 102 [.int .u64 (x : Nat), .int .u64 (y : Nat), .int .u64 0] H (.tuple [.int .u64 ((x + y) % 2 ^ 64 : Nat), .int .u64 ((x + y) / 2 ^ 64 : Nat)]) H :=
  FSpec.add64 (fn := Tryz.f102) Tryz.func102 (by kernel_rfl) (by kernel_rfl) (by kernel_rfl) (by kernel_rfl) x y 0 (by decide)
theorem sub64_q (a b i : Nat) (h : b ≤ a) (H : Heap) : FSpec Tryz.prog 111 [.int .u64 (wd a i : Nat), .int .u64 (wd b i : Nat), .int .u64 (bor a b i : Nat)] H (.tuple [.int .u64 (wd (a - b) i : Nat), .int .u64 (bor a b (i + 1) : Nat)]) H := by
  rw [← wd_sub a b i h, ← bor_succ]
  exact FSpec.sub64 (fn := Tryz.f111) Tryz.func111 (by kernel_rfl) (by kernel_rfl) (by kernel_rfl) (by kernel_rfl) _ _ _ (bor_le a b i)
theorem fFdMinus_spec (a b : Nat) (h : b ≤ a) : FSpec Tryz.prog 105 [.agg (q4 a), .agg (q4 b)] [] (.agg (q4 (a - b))) [] := by
  refine FSpec.of_W fFdMinus_low (by simp) ?_
  simp only [initEnv]
  simp
  refine W_loop (X := { i : Nat // i ≤ 4 }) (fun i => [(2, .ptr 0 0), (3, .ptr 1 0), (4, .ptr 2 0), (5, .ptr 3 0), (6, .int .u64 (bor a b i.1 : Nat)), (8, .int .i64 i.1)]) (fun i => [some ⟨q4 a, 100, true⟩, some ⟨q4 b, 100, true⟩, some ⟨q4 0, 100, true⟩, some ⟨mx i.1 (a - b) 0, 100, true⟩]) (fun i => 4 - i.1) ⟨0, by omega⟩ retPost_le ?_ ?_
  · exact cut_w (by simp [bor_zero, mx_zero, q4_zero])
  · rintro ⟨i, hi⟩
    simp only
    simp
    refine WC_dec (fun hl => ?_) (fun hl => ?_)
    · have h4 : i < 4 := by omega
      simp [h4, hl]
      refine WO_call rfl (sub64_q a b i h _) (by simp) ?_
      simp [h4, hl]
      refine ⟨by omega, ⟨i + 1, by omega⟩, by simp; omega, ?_⟩
      exact cut_w (by simp [wrap64s (n := (i : Int) + 1) (by omega) (by omega)])
    · have h4 : i = 4 := by omega
      subst h4
      simp [mx_four]
      exact fin_W (by simp)
theorem fMul64_spec (x y : Nat) (hx : x < 2 ^ 64) (hy : y < 2 ^ 64) : FSpec Tryz.prog 109 [.int .u64 (x : Nat), .int .u64 (y : Nat)] [] (.tuple [.int .u64 (x * y / 2 ^ 64 : Nat), .int .u64 (x * y % 2 ^ 64 : Nat)]) [] := by
  have hp := mul64_parts x y hx hy
  obtain ⟨x0, hx0⟩ : ∃ x0, x0 = x % 2 ^ 32 := ⟨_, rfl⟩
  obtain ⟨x1, hx1⟩ : ∃ x1, x1 = x / 2 ^ 32 := ⟨_, rfl⟩
  obtain ⟨y0, hy0⟩ : ∃ y0, y0 = y % 2 ^ 32 := ⟨_, rfl⟩
  obtain ⟨y1, hy1⟩ : ∃ y1, y1 = y / 2 ^ 32 := ⟨_, rfl⟩
  have l1 : x0 < 2 ^ 32 := by omega
  have l2 : x1 < 2 ^ 32 := by omega
  have l3 : y0 < 2 ^ 32 := by omega
  have l4 : y1 < 2 ^ 32 := by omega
  have m1 := mul32_lt l1 l3
  have m2 := mul32_lt l2 l3
  have m3 := mul32_lt l1 l4
  have m4 := mul32_lt l2 l4
  have a1 : bitI .and .u64 (x : Int) 4294967295 = (x0 : Nat) := by
    have := bitI_and (k := .u64) rfl (a := x) (b := 4294967295) hx (by decide)
    rw [hx0, ← Nat.and_two_pow_sub_one_eq_mod]; exact this
  have a2 : bitI .and .u64 (y : Int) 4294967295 = (y0 : Nat) := by
    have := bitI_and (k := .u64) rfl (a := y) (b := 4294967295) hy (by decide)
    rw [hy0, ← Nat.and_two_pow_sub_one_eq_mod]; exact this
  have a3 : (x : Int).fdiv (2 ^ min 32 IntKind.u64.bits) = (x1 : Nat) := by rw [hx1]; exact shr_nat x 32
  have a4 : (y : Int).fdiv (2 ^ min 32 IntKind.u64.bits) = (y1 : Nat) := by rw [hy1]; exact shr_nat y 32
  rw [← hx0, ← hx1, ← hy0, ← hy1] at hp
  obtain ⟨A, hA⟩ : ∃ A, A = x0 * y0 := ⟨_, rfl⟩
  obtain ⟨B, hB⟩ : ∃ B, B = x1 * y0 := ⟨_, rfl⟩
  obtain ⟨C, hC⟩ : ∃ C, C = x0 * y1 := ⟨_, rfl⟩
  obtain ⟨D, hD⟩ : ∃ D, D = x1 * y1 := ⟨_, rfl⟩
  obtain ⟨Z, hZ⟩ : ∃ Z, Z = x * y := ⟨_, rfl⟩
  rw [← hA, ← hB, ← hC, ← hD, ← hZ] at hp
  rw [← hA] at m1
  rw [← hB] at m2
  rw [← hC] at m3
  rw [← hD] at m4
  have wr : ∀ n : Nat, n < 2 ^ 64 → IntKind.u64.wrap (n : Int) = (n : Nat) := fun n h => by rw [wrapu64, Nat.mod_eq_of_lt h]
  have b1 : IntKind.u64.wrap ((x0 : Int) * y0) = (A : Nat) := by rw [hA, ← Int.natCast_mul]; exact wr _ (by omega)
  have b2 : IntKind.u64.wrap ((x1 : Int) * y0) = (B : Nat) := by rw [hB, ← Int.natCast_mul]; exact wr _ (by omega)
  have b3 : IntKind.u64.wrap ((x0 : Int) * y1) = (C : Nat) := by rw [hC, ← Int.natCast_mul]; exact wr _ (by omega)
  have b4 : IntKind.u64.wrap ((x1 : Int) * y1) = (D : Nat) := by rw [hD, ← Int.natCast_mul]; exact wr _ (by omega)
  have sh : ∀ n : Nat, (n : Int).fdiv (2 ^ min 32 IntKind.u64.bits) = (n / 2 ^ 32 : Nat) := fun n => shr_nat n 32
  obtain ⟨t, ht⟩ : ∃ t, t = B + A / 2 ^ 32 := ⟨_, rfl⟩
  have c1 : IntKind.u64.wrap ((B : Int) + ((A / 2 ^ 32 : Nat) : Int)) = (t : Nat) := by rw [ht, ← Int.natCast_add]; exact wr _ (by omega)
  have c2 : bitI .and .u64 (t : Int) 4294967295 = (t % 2 ^ 32 : Nat) := by
    have := bitI_and (k := .u64) rfl (a := t) (b := 4294967295) (show t < 2 ^ 64 by omega) (by decide)
    rw [← Nat.and_two_pow_sub_one_eq_mod]; exact this
  obtain ⟨w, hw⟩ : ∃ w, w = t % 2 ^ 32 + C := ⟨_, rfl⟩
  have c3 : IntKind.u64.wrap (((t % 2 ^ 32 : Nat) : Int) + C) = (w : Nat) := by rw [hw, ← Int.natCast_add]; exact wr _ (by omega)
  have c4 : IntKind.u64.wrap ((D : Int) + ((t / 2 ^ 32 : Nat) : Int)) = ((D + t / 2 ^ 32 : Nat) : Int) := by rw [← Int.natCast_add]; exact wr _ (by omega)
  have c5 : IntKind.u64.wrap (((D + t / 2 ^ 32 : Nat) : Int) + ((w / 2 ^ 32 : Nat) : Int)) = ((D + t / 2 ^ 32 + w / 2 ^ 32 : Nat) : Int) := by rw [← Int.natCast_add]; exact wr _ (by omega)
  have c6 : IntKind.u64.wrap ((x : Int) * y) = (Z % 2 ^ 64 : Nat) := by rw [hZ, ← Int.natCast_mul, wrapu64]
  have c7 : D + t / 2 ^ 32 + w / 2 ^ 32 = Z / 2 ^ 64 := by omega
  rw [c7] at c5
  rw [← hZ]
  clear hp hx0 hx1 hy0 hy1 hA hB hC hD hZ m1 m2 m3 m4 c7
  refine FSpec.of_W fMul64_low (by simp) ?_
  simp only [initEnv]
  simp
  simp only [a1, a2, a3, a4, b1, b2, b3, b4, sh, c1, c2, c3, c4, c5, c6]
  exact fin_W (by simp)
theorem fFdReduced_spec (a : Nat) (ha : a < 2 ^ 256) : FSpec Tryz.prog 110 [.agg (q4 a)] [] (.agg (q4 (a % p25))) [] := by
  have hM := fFdModulus_spec
  have hp := p25_lt
  have hpos := p25_pos
  generalize p25 = p at *
  refine FSpec.of_W fFdReduced_low (by simp) ?_
  simp only [initEnv]
  simp
  refine W_loop (X := { v : Nat // v < 2 ^ 256 ∧ v % p = a % p }) (fun v => [(1, .ptr 0 0), (2, .ptr 1 0)]) (fun v => [some ⟨q4 v.1, 100, true⟩, some ⟨q4 0, 100, true⟩]) (fun v => v.1) ⟨a, ha, rfl⟩ retPost_le ?_ ?_
  · exact cut_w (by simp [q4_zero])
  · rintro ⟨v, hv, hr⟩
    simp only
    simp
    refine WO_callP [] rfl rfl hM (by simp) (by simp) ?_
    simp
    refine WO_callP [] rfl rfl (fFdLess_spec v p hv (by omega)) (by simp) (by simp) ?_
    simp
    refine WC_ndec (fun h => ?_) (fun h => ?_)
    · simp
      refine WO_callP [] rfl rfl hM (by simp) (by simp) ?_
      simp
      refine WO_callP [] rfl rfl (fFdMinus_spec v p (by omega)) (by simp) (by simp) ?_
      simp
      have hs : (v - p) % p = a % p := by rw [← hr, ← Nat.mod_eq_sub_mod (by omega)]
      refine ⟨⟨v - p, by omega, hs⟩, by simp; omega, ?_⟩
      exact cut_w (by simp)
    · simp
      rw [Nat.mod_eq_of_lt h] at hr
      rw [← hr]
      exact fin_W (by simp)
theorem q4_mod (n : Nat) : q4 (n % 115792089237316195423570985008687907853269984665640564039457584007913129639936) = q4 n := by
  have h : ∀ k, k < 4 → wd (n % 2 ^ 256) k = wd n k := fun k hk => by
    rw [wd, wd, show (256 : Nat) = 64 * k + (256 - 64 * k) by omega, Nat.pow_add, Nat.mod_mul_right_div_self, show 256 - 64 * k = 64 + (192 - 64 * k) by omega, Nat.pow_add, Nat.mod_mul_right_mod]
  have h0 := h 0 (by decide); have h1 := h 1 (by decide); have h2 := h 2 (by decide); have h3 := h 3 (by decide)
  simp only [q4]
  rw [show (115792089237316195423570985008687907853269984665640564039457584007913129639936 : Nat) = 2 ^ 256 from rfl, h0, h1, h2, h3]
theorem car_top {a b : Nat} (h : a < 2 ^ 256) (hb : b < 2 ^ 256) : (a + b) % 2 ^ 256 + 2 ^ 256 * car a b 4 = a + b := by
  simp only [car]
  rw [Nat.mod_eq_of_lt (show a < 2 ^ (64 * 4) from h), Nat.mod_eq_of_lt (show b < 2 ^ (64 * 4) from hb)]
  omega
theorem mod38 (a o : Nat) : (a + 2 ^ 256 * o) % p25 = (a + 38 * o) % p25 := by
  rw [show (2 : Nat) ^ 256 = 38 + p25 * 2 from rfl, Nat.add_mul, ← Nat.add_assoc, Nat.mul_assoc, Nat.add_mul_mod_self_left]
theorem fFdFolded_spec (a o : Nat) (ha : a < 2 ^ 256) (ho : o < 2 ^ 64) : FSpec Tryz.prog 103 [.agg (q4 a), .int .u64 (o : Nat)] [] (.agg (q4 ((a + 2 ^ 256 * o) % p25))) [] := by
  have h38 := mod38
  have hred := fFdReduced_spec
  have hp := p25_lt
  have hpos := p25_pos
  generalize p25 = p at *
  refine FSpec.of_W fFdFolded_low (by simp) ?_
  simp only [initEnv]
  simp
  refine W_loop (X := { v : Nat × Nat // v.1 < 2 ^ 256 ∧ v.2 < 2 ^ 64 ∧ (v.1 + 2 ^ 256 * v.2) % p = (a + 2 ^ 256 * o) % p }) (fun v => [(1, .int .u64 (v.1.2 : Nat)), (2, .ptr 0 0), (4, .ptr 1 0)]) (fun v => [some ⟨q4 v.1.1, 100, true⟩, some ⟨q4 0, 100, true⟩]) (fun v => v.1.1 + 2 ^ 256 * v.1.2) ⟨(a, o), ha, ho, rfl⟩ retPost_le ?_ ?_
  · exact cut_w (by simp [q4_zero])
  · rintro ⟨⟨v, u⟩, hv, hu, hr⟩
    simp only at hv hu hr ⊢
    simp
    refine WC_dec (fun h => ?_) (fun h => ?_)
    · have hu0 : 0 < u := by omega
      obtain ⟨m, hm⟩ : ∃ m, m = u * 38 := ⟨_, rfl⟩
      have hM := fMul64_spec u 38 hu (by decide)
      rw [← hm] at hM
      have e0 : m % 2 ^ 64 = wd m 0 := (wd0 m).symm
      have e1 : m / 2 ^ 64 = wd m 1 := by rw [wd1]; omega
      have e2 : wd m 2 = 0 := by rw [wd2, Nat.div_eq_of_lt (by omega)]
      have e3 : wd m 3 = 0 := by rw [wd3, Nat.div_eq_of_lt (by omega)]
      rw [e0, e1] at hM
      have s0 := add64_q v m 0
      have s1 := add64_q v m 1
      have s2 := add64_q v m 2
      have s3 := add64_q v m 3
      rw [car_zero] at s0
      rw [e2] at s2
      rw [e3] at s3
      have ht := car_top hv (show m < 2 ^ 256 by omega)
      have hc := car_le v m 4
      rw [show q4 v = mx 0 (v + m) v from rfl]
      simp
      refine WO_callP [] rfl rfl hM (by simp) (by simp) ?_
      simp
      refine WO_call rfl (s0 _) (by simp) ?_
      simp
      refine WO_call rfl (s1 _) (by simp) ?_
      simp
      refine WO_call rfl (s2 _) (by simp) ?_
      simp
      refine WO_call rfl (s3 _) (by simp) ?_
      simp
      have hn : ((v + m) % 2 ^ 256 + 2 ^ 256 * car v m 4) % p = (a + 2 ^ 256 * o) % p := by
        rw [ht, hm, ← hr, h38 v u, Nat.mul_comm]
      refine ⟨⟨((v + m) % 2 ^ 256, car v m 4), Nat.mod_lt _ (by decide), by simp only; omega, hn⟩, by simp only; omega, ?_⟩
      exact cut_w (by simp [mx_four, q4_mod])
    · obtain rfl : u = 0 := by omega
      rw [Nat.mul_zero, Nat.add_zero] at hr
      simp
      refine WO_callP [] rfl rfl (hred v hv) (by simp) (by simp) ?_
      rw [hr]
      simp
      exact fin_W (by simp)
end Go.Proofs.YthgibibeoapfbaaGreat
namespace Go.Proofs.YthgibibeoapfbaaGreat
open Go Go.Fw
attribute [local irreducible] W WX WR WO WS WSr WH WHA WG WC FSpec
attribute [local simp] WS_at_q4 WSr_at_q4 WS_at_mx mx_set' loadWP splice_full Int.natCast_inj WS_at_arr WSr_at_arr arr_set
theorem vb_zero : ∀ m, vb (fun _ => 0) m = 0
  | 0 => rfl
  | m + 1 => by rw [vb, vb_zero m, Nat.zero_mul]
theorem step_lt {x y w o : Nat} (hx : x < 2 ^ 64) (hy : y < 2 ^ 64) (hw : w < 2 ^ 64) (ho : o < 2 ^ 64) : x * y + w + o < 2 ^ 128 := by
  have := Nat.mul_le_mul (show x ≤ 2 ^ 64 - 1 by omega) (show y ≤ 2 ^ 64 - 1 by omega)
  omega
theorem step_hi {z w o : Nat} : (z / 2 ^ 64 + ((z % 2 ^ 64 + w) / 2 ^ 64)) + (((z % 2 ^ 64 + w) % 2 ^ 64 + o) / 2 ^ 64) = (z + w + o) / 2 ^ 64 := by omega
theorem step_lo {z w o : Nat} : ((z % 2 ^ 64 + w) % 2 ^ 64 + o) % 2 ^ 64 = (z + w + o) % 2 ^ 64 := by omega
set_option maxHeartbeats 1000000 in
theorem fFdTimes_spec (a b : Nat) (ha : a < 2 ^ 256) (hb : b < 2 ^ 256) : FSpec Tryz.prog 101 [.agg (q4 a), .agg (q4 b)] [] (.agg (q4 (a * b % p25))) [] := by
  have hfold := fFdFolded_spec
  have h38 := mod38
  generalize p25 = p at *
  have top4 : ∀ n k : Nat, n < 2 ^ 256 → k = 4 → n % 2 ^ (64 * k) = n := fun n k hn hk => by rw [hk]; exact Nat.mod_eq_of_lt hn
  have hb4 := fun k => top4 b k hb
  have ha4 := fun k => top4 a k ha
  refine FSpec.of_W fFdTimes_low (by simp) ?_
  simp only [initEnv]
  simp
  refine W_loop (X := { v : Nat × (Nat → Nat) // v.1 ≤ 4 ∧ (∀ j, j < 8 → v.2 j < 2 ^ 64) ∧ (∀ j, v.1 + 4 ≤ j → j < 8 → v.2 j = 0) ∧ vb v.2 8 = (a % 2 ^ (64 * v.1)) * b })
    (fun v => [(3, .ptr 1 0), (4, .ptr 2 0), (5, .ptr 3 0), (22, .agg (q4 a)), (23, .int .i64 v.1.1)])
    (fun v => [some ⟨q4 a, 100, true⟩, some ⟨q4 b, 100, true⟩, some ⟨q4 0, 100, true⟩, some ⟨arr .u64 8 v.1.2, 161, true⟩])
    (fun v => 4 - v.1.1) ⟨(0, fun _ => 0), by simp, fun _ _ => by simp, fun _ _ _ => rfl, by rw [vb_zero, Nat.mul_zero, Nat.pow_zero, Nat.mod_one, Nat.zero_mul]⟩ retPost_le ?_ ?_
  · have hz8 : arr .u64 8 (fun _ => 0) = [.int .u64 0, .int .u64 0, .int .u64 0, .int .u64 0, .int .u64 0, .int .u64 0, .int .u64 0, .int .u64 0] := rfl
    exact cut_w (by simp [q4_zero, hz8])
  · rintro ⟨⟨i, g⟩, hi, hg, hz, hv⟩
    simp only at hi hg hz hv ⊢
    simp
    refine WC_dec (fun h => ?_) (fun h => ?_)
    · have h4 : i < 4 := by omega
      simp [h4]
      refine ⟨by omega, ?_⟩
      obtain ⟨x, hx⟩ : ∃ x, x = wd a i := ⟨_, rfl⟩
      have hx64 : x < 2 ^ 64 := by rw [hx]; exact wd_lt a i
      rw [← hx]
      refine W_loop (X := { v : Nat × (Nat → Nat) × Nat // v.1 ≤ 4 ∧ (∀ j, j < 8 → v.2.1 j < 2 ^ 64) ∧ v.2.2 < 2 ^ 64 ∧ (∀ j, i + 4 ≤ j → j < 8 → v.2.1 j = 0) ∧ vb v.2.1 8 + v.2.2 * 2 ^ (64 * (i + v.1)) = (a % 2 ^ (64 * i)) * b + x * (b % 2 ^ (64 * v.1)) * 2 ^ (64 * i) })
        (fun v => [(3, .ptr 1 0), (4, .ptr 2 0), (5, .ptr 3 0), (6, .int .i64 i), (7, .int .u64 (x : Nat)), (8, .int .u64 (v.1.2.2 : Nat)), (22, .agg (q4 a)), (23, .int .i64 i), (27, .agg (q4 b)), (28, .int .i64 v.1.1)])
        (fun v => [some ⟨q4 a, 100, true⟩, some ⟨q4 b, 100, true⟩, some ⟨q4 0, 100, true⟩, some ⟨arr .u64 8 v.1.2.1, 161, true⟩])
        (fun v => 4 - v.1.1) ⟨(0, g, 0), by simp, hg, by simp, hz, by simp [Nat.mod_one, hv]⟩ retPost_le ?_ ?_
      · exact cut_w (by simp)
      · rintro ⟨⟨k, g', o⟩, hk, hg', ho, hz', hv'⟩
        simp only at hk hg' ho hz' hv' ⊢
        simp
        refine WC_dec (fun h => ?_) (fun h => ?_)
        · have k4 : k < 4 := by omega
          obtain ⟨y, hy⟩ : ∃ y, y = wd b k := ⟨_, rfl⟩
          have hy64 : y < 2 ^ 64 := by rw [hy]; exact wd_lt b k
          have hM := fMul64_spec x y hx64 hy64
          obtain ⟨w, hw⟩ : ∃ w, w = g' (i + k) := ⟨_, rfl⟩
          have hw64 : w < 2 ^ 64 := by rw [hw]; exact hg' _ (by omega)
          have hs := step_lt hx64 hy64 hw64 ho
          obtain ⟨z, hz0⟩ : ∃ z, z = x * y := ⟨_, rfl⟩
          rw [← hz0] at hM hs
          have hsh := step_hi (z := z) (w := w) (o := o)
          have hsl := step_lo (z := z) (w := w) (o := o)
          have A1 := add64_p (z % 2 ^ 64) w
          have A2 := add64_p ((z % 2 ^ 64 + w) % 2 ^ 64) o
          obtain ⟨h1, hh1⟩ : ∃ h1, h1 = z / 2 ^ 64 := ⟨_, rfl⟩
          obtain ⟨l1, hl1⟩ : ∃ l1, l1 = z % 2 ^ 64 := ⟨_, rfl⟩
          rw [← hh1, ← hl1] at hM
          rw [← hl1] at A1 A2 hsh hsl
          rw [← hh1] at hsh
          obtain ⟨c, hc⟩ : ∃ c, c = (l1 + w) / 2 ^ 64 := ⟨_, rfl⟩
          obtain ⟨l2, hl2⟩ : ∃ l2, l2 = (l1 + w) % 2 ^ 64 := ⟨_, rfl⟩
          rw [← hl2] at A1 A2 hsh hsl
          rw [← hc] at A1 hsh
          obtain ⟨d, hd⟩ : ∃ d, d = (l2 + o) / 2 ^ 64 := ⟨_, rfl⟩
          obtain ⟨l3, hl3⟩ : ∃ l3, l3 = (l2 + o) % 2 ^ 64 := ⟨_, rfl⟩
          rw [← hd] at A2 hsh
          rw [← hl3] at A2 hsl
          have w1 : IntKind.i64.wrap ((i : Int) + k) = (i : Int) + k := wrap64s (by omega) (by omega)
          have w2 : ((i : Int) + k).toNat = i + k := by omega
          have w3 : IntKind.u64.wrap ((h1 : Int) + c) = ((h1 + c : Nat) : Int) := by rw [← Int.natCast_add, wrapu64, Nat.mod_eq_of_lt (by omega)]
          have w4 : IntKind.u64.wrap (((h1 + c : Nat) : Int) + d) = ((h1 + c + d : Nat) : Int) := by rw [← Int.natCast_add, wrapu64, Nat.mod_eq_of_lt (by omega)]
          obtain ⟨u, hu⟩ : ∃ u, u = h1 + c := ⟨_, rfl⟩
          obtain ⟨v, hv1⟩ : ∃ v, v = u + d := ⟨_, rfl⟩
          rw [← hu] at w3 w4 hsh
          rw [← hv1] at w4 hsh
          simp [k4]
          refine ⟨by omega, ?_⟩
          rw [← hy]
          refine WO_callP [] rfl rfl hM (by simp) (by simp) ?_
          simp [w1, w2]
          refine ⟨by omega, by omega, ?_⟩
          rw [← hw]
          refine WO_call rfl (A1 _) (by simp) ?_
          simp
          refine WO_call rfl (A2 _) (by simp) ?_
          simp [w1, w2, w3, w4]
          refine ⟨by omega, by omega, ⟨(k + 1, upd g' (i + k) l3, v), by simp only; omega, upd_lt hg' (by omega), by simp only; omega, fun j j1 j2 => ?_, ?_⟩, by simp only; omega, cut_w ?_⟩
          · simp only [upd]
            rw [if_neg (by omega)]
            exact hz' j j1 j2
          · simp only
            have E1 := vb_upd (g := g') (i := i + k) (v := l3) (m := 8) (by omega)
            rw [← hw] at E1
            have E2 : l3 + 2 ^ 64 * v = z + w + o := by omega
            rw [mod_next, ← hy]
            have E3 : x * (b % 2 ^ (64 * k) + 2 ^ (64 * k) * y) * 2 ^ (64 * i) = x * (b % 2 ^ (64 * k)) * 2 ^ (64 * i) + z * 2 ^ (64 * (i + k)) := by
              rw [hz0, Nat.mul_add, Nat.add_mul, show 64 * (i + k) = 64 * k + 64 * i by omega, Nat.pow_add]
              congr 1
              ac_rfl
            have E4 : v * 2 ^ (64 * (i + (k + 1))) = 2 ^ 64 * v * 2 ^ (64 * (i + k)) := by
              rw [show 64 * (i + (k + 1)) = 64 + 64 * (i + k) by omega, Nat.pow_add]; ac_rfl
            rw [E3, E4]
            have E5 := congrArg (· * 2 ^ (64 * (i + k))) E2
            simp only [Nat.add_mul] at E5
            omega
          · have w5 : IntKind.i64.wrap ((k : Int) + 1) = (k : Int) + 1 := wrap64s (by omega) (by omega)
            simp [w5]
        · have hk4 : k = 4 := by omega
          rw [hb4 k hk4] at hv'
          subst hk4
          have w1 : IntKind.i64.wrap ((i : Int) + 4) = (i : Int) + 4 := wrap64s (by omega) (by omega)
          have w2 : ((i : Int) + 4).toNat = i + 4 := by omega
          simp [w1, w2]
          refine ⟨by omega, by omega, ⟨(i + 1, upd g' (i + 4) o), by simp only; omega, upd_lt hg' ho, fun j j1 j2 => ?_, ?_⟩, by simp only; omega, cut_w ?_⟩
          · simp only [upd]
            rw [if_neg (by omega)]
            exact hz' j (by omega) j2
          · simp only
            have E1 := vb_upd (g := g') (i := i + 4) (v := o) (m := 8) (by omega)
            rw [hz' (i + 4) (by omega) (by omega), Nat.zero_mul, Nat.add_zero] at E1
            refine E1.trans (hv'.trans ?_)
            rw [mod_next, ← hx, Nat.add_mul]
            have E3 : 2 ^ (64 * i) * x * b = x * b * 2 ^ (64 * i) := by ac_rfl
            rw [E3]
          · have w5 : IntKind.i64.wrap ((i : Int) + 1) = (i : Int) + 1 := wrap64s (by omega) (by omega)
            simp [w5]
    · have hi4 : i = 4 := by omega
      rw [ha4 i hi4] at hv
      simp
      have hsp := vb_split g 4 4
      rw [hv] at hsp
      obtain ⟨lo, hlo⟩ : ∃ lo, lo = vb g 4 := ⟨_, rfl⟩
      obtain ⟨hh, hhh⟩ : ∃ hh, hh = vb (fun k => g (4 + k)) 4 := ⟨_, rfl⟩
      rw [← hlo, ← hhh] at hsp
      have hfin : (lo + 38 * hh) % p = a * b % p := by
        rw [hsp, show 64 * 4 = 256 from rfl, h38]
      clear hsp hv hz
      refine W_loop (X := { v : Nat × (Nat → Nat) × Nat // v.1 ≤ 4 ∧ (∀ j, j < 4 → v.2.1 j < 2 ^ 64) ∧ v.2.2 < 2 ^ 64 ∧ vb v.2.1 v.1 + v.2.2 * 2 ^ (64 * v.1) = vb g v.1 + 38 * vb (fun k => g (4 + k)) v.1 })
        (fun v => [(4, .ptr 2 0), (5, .ptr 3 0), (15, .ptr 4 0), (16, .int .u64 (v.1.2.2 : Nat)), (70, .int .i64 v.1.1)])
        (fun v => [some ⟨q4 a, 100, true⟩, some ⟨q4 b, 100, true⟩, some ⟨q4 0, 100, true⟩, some ⟨arr .u64 8 g, 161, true⟩, some ⟨arr .u64 4 v.1.2.1, 100, true⟩])
        (fun v => 4 - v.1.1) ⟨(0, fun _ => 0, 0), by simp, fun _ _ => by simp, by simp, by simp [vb]⟩ retPost_le ?_ ?_
      · have hz4 : arr .u64 4 (fun _ => 0) = [.int .u64 0, .int .u64 0, .int .u64 0, .int .u64 0] := rfl
        exact cut_w (by simp [hz4])
      · rintro ⟨⟨k, h, o⟩, hk, hh', ho, hv'⟩
        simp only at hk hh' ho hv' ⊢
        simp
        refine WC_dec (fun hlt => ?_) (fun hlt => ?_)
        · have k4 : k < 4 := by omega
          obtain ⟨x, hx⟩ : ∃ x, x = g (4 + k) := ⟨_, rfl⟩
          obtain ⟨w, hw⟩ : ∃ w, w = g k := ⟨_, rfl⟩
          have hx64 : x < 2 ^ 64 := by rw [hx]; exact hg _ (by omega)
          have hw64 : w < 2 ^ 64 := by rw [hw]; exact hg _ (by omega)
          have hM := fMul64_spec x 38 hx64 (by decide)
          have hs := step_lt hx64 (show 38 < 2 ^ 64 by decide) hw64 ho
          obtain ⟨z, hz0⟩ : ∃ z, z = x * 38 := ⟨_, rfl⟩
          rw [← hz0] at hM hs
          have hsh := step_hi (z := z) (w := w) (o := o)
          have hsl := step_lo (z := z) (w := w) (o := o)
          have A1 := add64_p (z % 2 ^ 64) w
          have A2 := add64_p ((z % 2 ^ 64 + w) % 2 ^ 64) o
          obtain ⟨h1, hh1⟩ : ∃ h1, h1 = z / 2 ^ 64 := ⟨_, rfl⟩
          obtain ⟨l1, hl1⟩ : ∃ l1, l1 = z % 2 ^ 64 := ⟨_, rfl⟩
          rw [← hh1, ← hl1] at hM
          rw [← hl1] at A1 A2 hsh hsl
          rw [← hh1] at hsh
          obtain ⟨c, hc⟩ : ∃ c, c = (l1 + w) / 2 ^ 64 := ⟨_, rfl⟩
          obtain ⟨l2, hl2⟩ : ∃ l2, l2 = (l1 + w) % 2 ^ 64 := ⟨_, rfl⟩
          rw [← hl2] at A1 A2 hsh hsl
          rw [← hc] at A1 hsh
          obtain ⟨d, hd⟩ : ∃ d, d = (l2 + o) / 2 ^ 64 := ⟨_, rfl⟩
          obtain ⟨l3, hl3⟩ : ∃ l3, l3 = (l2 + o) % 2 ^ 64 := ⟨_, rfl⟩
          rw [← hd] at A2 hsh
          rw [← hl3] at A2 hsl
          have w1 : IntKind.i64.wrap ((k : Int) + 4) = (k : Int) + 4 := wrap64s (by omega) (by omega)
          have w2 : ((k : Int) + 4).toNat = 4 + k := by omega
          have w3 : IntKind.u64.wrap ((h1 : Int) + c) = ((h1 + c : Nat) : Int) := by rw [← Int.natCast_add, wrapu64, Nat.mod_eq_of_lt (by omega)]
          have w4 : IntKind.u64.wrap (((h1 + c : Nat) : Int) + d) = ((h1 + c + d : Nat) : Int) := by rw [← Int.natCast_add, wrapu64, Nat.mod_eq_of_lt (by omega)]
          obtain ⟨u, hu⟩ : ∃ u, u = h1 + c := ⟨_, rfl⟩
          obtain ⟨v, hv1⟩ : ∃ v, v = u + d := ⟨_, rfl⟩
          rw [← hu] at w3 w4 hsh
          rw [← hv1] at w4 hsh
          simp [k4, w1, w2]
          refine ⟨by omega, by omega, ?_⟩
          rw [← hx]
          refine WO_callP [] rfl rfl hM (by simp) (by simp) ?_
          simp
          refine ⟨by omega, by omega, ?_⟩
          rw [← hw]
          refine WO_call rfl (A1 _) (by simp) ?_
          simp
          refine WO_call rfl (A2 _) (by simp) ?_
          simp [w3, w4]
          refine ⟨by omega, by omega, ⟨(k + 1, upd h k l3, v), by simp only; omega, upd_lt hh' (by omega), by simp only; omega, ?_⟩, by simp only; omega, cut_w ?_⟩
          · simp only [vb]
            rw [vb_upd_out (Nat.le_refl _), ← hx, ← hw]
            have E2 : l3 + 2 ^ 64 * v = z + w + o := by omega
            have E4 : v * 2 ^ (64 * (k + 1)) = 2 ^ 64 * v * 2 ^ (64 * k) := by
              rw [show 64 * (k + 1) = 64 + 64 * k by omega, Nat.pow_add]; ac_rfl
            have E5 := congrArg (· * 2 ^ (64 * k)) E2
            simp only [Nat.add_mul] at E5
            have E6 : upd h k l3 k = l3 := if_pos rfl
            have E7 : z * 2 ^ (64 * k) = 38 * (x * 2 ^ (64 * k)) := by rw [hz0]; ac_rfl
            rw [E4, E6]
            omega
          · have w5 : IntKind.i64.wrap ((k : Int) + 1) = (k : Int) + 1 := wrap64s (by omega) (by omega)
            simp [w5]
        · have hk4 : k = 4 := by omega
          rw [hk4] at hv'
          rw [← hlo, ← hhh] at hv'
          have hF := hfold (vb h 4) o (vb_lt hh') ho
          rw [Nat.mul_comm (2 ^ 256) o] at hF
          have hv2 : vb h 4 + o * 2 ^ 256 = lo + 38 * hh := hv'
          rw [hv2, hfin] at hF
          rw [q4_vb hh']
          subst hk4
          simp
          refine WO_callP [] rfl rfl hF (by simp) (by simp) ?_
          simp
          exact fin_W (by simp)
theorem fFdOdd_spec (a : Nat) : FSpec Tryz.prog 106 [.agg (q4 a)] [] (.bool (decide (a % 2 = 1))) [] := by
  have h1 := and1_u64 (wd_lt a 0)
  have h2 : wd a 0 % 2 = a % 2 := by rw [wd0]; omega
  rw [h2] at h1
  obtain ⟨r, hr⟩ : ∃ r, r = a % 2 := ⟨_, rfl⟩
  rw [← hr] at h1 ⊢
  refine FSpec.of_W fFdOdd_low (by simp) ?_
  simp only [initEnv]
  simp [h1]
  exact fin_W (by simp; omega)
theorem fFdNeg_spec (a : Nat) (ha : a < p25) : FSpec Tryz.prog 86 [.agg (q4 a)] [] (.agg (q4 (negP a))) [] := by
  have hM := fFdModulus_spec
  have hp := p25_lt
  simp only [negP]
  generalize p25 = p at *
  have hm := fFdMinus_spec p a (by omega)
  refine FSpec.of_W fFdNeg_low (by simp) ?_
  simp only [initEnv]
  simp
  rw [← q4_zero]
  refine ⟨hasK_q4 0, ?_⟩
  refine WC_dec (fun h => ?_) (fun h => ?_)
  · rw [ints_q4 (m := a) (n := 0) (by omega) (by decide)] at h
    rw [if_pos h]
    simp
    exact fin_W (by simp [h])
  · rw [ints_q4 (m := a) (n := 0) (by omega) (by decide)] at h
    rw [if_neg h]
    simp
    refine WO_callP [] rfl rfl hM (by simp) (by simp) ?_
    simp
    refine WO_callP [] rfl rfl hm (by simp) (by simp) ?_
    simp
    exact fin_W (by simp)
def els1 (x : Nat) : List AV := q4 x
def els (l : List Nat) : List AV := l.flatMap els1
@[simp] theorem els_nil : els [] = [] := rfl
@[simp] theorem els_cons (x : Nat) (l : List Nat) : els (x :: l) = els1 x ++ els l := by simp [els]
@[simp] theorem els1_length (x : Nat) : (els1 x).length = 4 := rfl
@[simp] theorem els_length (l : List Nat) : (els l).length = l.length * 4 := by
  induction l with
  | nil => rfl
  | cons i l ih => simp [ih]; omega
@[simp] theorem els_drop (l : List Nat) (i : Nat) : (els l).drop (i * 4) = els (l.drop i) := by
  induction l generalizing i with
  | nil => simp
  | cons x l ih =>
    cases i with
    | zero => simp
    | succ i => rw [els_cons, List.drop_succ_cons, ← ih i, show (i + 1) * 4 = (els1 x).length + i * 4 by rw [els1_length]; omega, List.drop_length_add_append]
@[simp] theorem els_take (l : List Nat) (i : Nat) : (els l).take (i * 4) = els (l.take i) := by
  induction l generalizing i with
  | nil => simp
  | cons x l ih =>
    cases i with
    | zero => simp
    | succ i => rw [els_cons, List.take_succ_cons, els_cons, ← ih i, show (i + 1) * 4 = (els1 x).length + i * 4 by rw [els1_length]; omega, List.take_length_add_append]
@[simp] theorem ltL_els (n : Nat) (l : List Nat) : ltL n (els l) = true := ltL_flatMap _ fun x => by simp [els1]
@[simp] theorem ids_els (q : Nat → Bool) (l : List Nat) : idsL q (els l) = true := idsL_flatMap _ fun x => by simp [els1]
@[simp] theorem sub_els (s : Nat → Nat → Nat → Nat → Option Nat → AV) (p : Nat → Nat → AV) (l : List Nat) : subL s p (els l) = els l := subL_flatMap _ fun x => by simp [els1]
@[simp] theorem cleanL_els (l : List Nat) : cleanL (els l) = true := cleanL_flatMap _ fun x => by simp [els1]
theorem sum_take (l : List Nat) (i : Nat) (h : i < l.length) : (l.take (i + 1)).sum = (l.take i).sum + l[i] := by
  rw [List.take_add_one, List.getElem?_eq_getElem h, Option.toList_some, List.sum_append, List.sum_singleton]
theorem fFdAdd_spec (l : List Nat) (md : Md) (h : ∀ x ∈ l, x < 2 ^ 255) (hl : l.length < 2 ^ 40) : FSpec Tryz.prog 82 [.list 4 md (els l)] [] (.agg (q4 (l.sum % p25))) [] := by
  have hF := fFdFolded_spec
  have hp := p25_lt
  have hpos := p25_pos
  generalize p25 = p at *
  refine FSpec.of_W fFdAdd_low (by simp) ?_
  simp only [initEnv]
  simp
  refine W_loop (X := { i : Nat // i ≤ l.length }) (fun i => [(2, .ptr 0 0), (3, .ptr 1 0), (8, .list 4 md (els l)), (9, .int .i64 l.length), (10, .int .i64 i.1)])
    (fun i => [some ⟨q4 0, 100, true⟩, some ⟨q4 ((l.take i.1).sum % p), 100, true⟩]) (fun i => l.length - i.1) ⟨0, by simp⟩ retPost_le ?_ ?_
  · refine cut_w ?_
    simp [q4_zero]
  · rintro ⟨i, hi⟩
    simp only
    simp
    refine WC_dec (fun hlt => ?_) (fun hlt => ?_)
    · have hx : i < l.length := by omega
      have hd : l.drop i = l[i] :: l.drop (i + 1) := List.drop_eq_getElem_cons hx
      have hsum := sum_take l i hx
      have hxl := h l[i] (List.getElem_mem hx)
      obtain ⟨x, hxe⟩ : ∃ x, x = l[i] := ⟨_, rfl⟩
      rw [← hxe] at hd hsum hxl
      obtain ⟨s, hs⟩ : ∃ s, s = (l.take i).sum % p := ⟨_, rfl⟩
      have hs2 : s < 2 ^ 255 := by rw [hs]; have := Nat.mod_lt (l.take i).sum hpos; omega
      rw [← hs]
      simp [hd, els1, List.take_append]
      refine ⟨hx, ?_⟩
      refine W_loop (X := { j : Nat // j ≤ 4 }) (fun j => [(2, .ptr 0 0), (3, .ptr 1 0), (5, .ptr 2 0), (6, .int .u64 (car s x j.1 : Nat)), (8, .list 4 md (els l)), (9, .int .i64 l.length), (10, .int .i64 i), (14, .int .i64 j.1)])
        (fun j => [some ⟨q4 0, 100, true⟩, some ⟨mx j.1 (s + x) s, 100, true⟩, some ⟨q4 x, 100, true⟩]) (fun j => 4 - j.1) ⟨0, by omega⟩ retPost_le ?_ ?_
      · exact cut_w (by simp [car_zero, mx_zero])
      · rintro ⟨j, hj⟩
        simp only
        simp
        refine WC_dec (fun hl => ?_) (fun hl => ?_)
        · have h4 : j < 4 := by omega
          simp [h4, hl]
          refine WO_call rfl (add64_q s x j _) (by simp) ?_
          simp [h4, hl]
          refine ⟨by omega, ⟨j + 1, by omega⟩, by simp; omega, ?_⟩
          exact cut_w (by simp [wrap64s (n := (j : Int) + 1) (by omega) (by omega)])
        · have h4 : j = 4 := by omega
          subst h4
          have hf := hF ((s + x) % 2 ^ 256) (car s x 4) (Nat.mod_lt _ (by decide)) (by have := car_le s x 4; omega)
          rw [car_top (show s < 2 ^ 256 by omega) (show x < 2 ^ 256 by omega), show (2 : Nat) ^ 256 = 115792089237316195423570985008687907853269984665640564039457584007913129639936 from rfl, q4_mod] at hf
          have hse : (s + x) % p = (l.take (i + 1)).sum % p := by rw [hsum, hs, Nat.mod_add_mod]
          rw [hse] at hf
          simp [mx_four]
          refine WO_callP [] rfl rfl hf (by simp) (by simp) ?_
          simp
          refine ⟨⟨i + 1, hx⟩, by simp; omega, cut_w ?_⟩
          simp [wrap64s (n := (i : Int) + 1) (by omega) (by omega)]
    · have : i = l.length := by omega
      subst this
      simp [List.take_of_length_le]
      exact fin_W (by simp)
def mulP (l : List Nat) : Nat := l.foldl (fun x y => x * y % p25) 1
theorem mulP_lt (l : List Nat) : mulP l < p25 := by
  have : ∀ (l : List Nat) (a : Nat), a < p25 → l.foldl (fun x y => x * y % p25) a < p25 := by
    intro l
    induction l with
    | nil => intro a h; exact h
    | cons x l ih => intro a h; exact ih _ (Nat.mod_lt _ p25_pos)
  exact this l 1 (by decide)
theorem mulP_take (l : List Nat) (i : Nat) (h : i < l.length) : mulP (l.take (i + 1)) = mulP (l.take i) * l[i] % p25 := by
  unfold mulP
  rw [List.take_add_one, List.getElem?_eq_getElem h, Option.toList_some, List.foldl_append]
  rfl
theorem fFdMul_spec (l : List Nat) (md : Md) (h : ∀ x ∈ l, x < 2 ^ 255) (hl : l.length < 2 ^ 40) : FSpec Tryz.prog 80 [.list 4 md (els l)] [] (.agg (q4 (mulP l))) [] := by
  have hp := p25_lt
  have hS := fFdSmall_spec 1 (by decide)
  refine FSpec.of_W fFdMul_low (by simp) ?_
  simp only [initEnv]
  simp
  refine WO_callP [] rfl rfl hS (by simp) (by simp) ?_
  simp
  refine W_loop (X := { i : Nat // i ≤ l.length }) (fun i => [(2, .ptr 0 0), (3, .ptr 1 0), (7, .list 4 md (els l)), (8, .int .i64 l.length), (9, .int .i64 i.1)])
    (fun i => [some ⟨q4 0, 100, true⟩, some ⟨q4 (mulP (l.take i.1)), 100, true⟩]) (fun i => l.length - i.1) ⟨0, by simp⟩ retPost_le ?_ ?_
  · refine cut_w ?_
    simp [q4_zero, mulP]
  · rintro ⟨i, hi⟩
    simp only
    simp
    refine WC_dec (fun hlt => ?_) (fun hlt => ?_)
    · have hx : i < l.length := by omega
      have hd : l.drop i = l[i] :: l.drop (i + 1) := List.drop_eq_getElem_cons hx
      have hm := mulP_take l i hx
      have hml := mulP_lt (l.take i)
      have hxl := h l[i] (List.getElem_mem hx)
      obtain ⟨x, hxe⟩ : ∃ x, x = l[i] := ⟨_, rfl⟩
      rw [← hxe] at hd hm hxl
      have hT := fFdTimes_spec (mulP (l.take i)) x (by omega) (by omega)
      rw [← hm] at hT
      simp [hd, els1, List.take_append]
      refine ⟨hx, ?_⟩
      refine WO_callP [] rfl rfl hT (by simp) (by simp) ?_
      simp
      refine ⟨⟨i + 1, hx⟩, by simp; omega, cut_w ?_⟩
      simp [wrap64s (n := (i : Int) + 1) (by omega) (by omega)]
    · have : i = l.length := by omega
      subst this
      simp [List.take_of_length_le]
      exact fin_W (by simp)
end Go.Proofs.YthgibibeoapfbaaGreat
namespace Go.Proofs.YthgibibeoapfbaaGreat
open Go Go.Fw
attribute [local irreducible] W WX WR WO WS WSr WH WHA WG WC FSpec
attribute [local simp] els1 WS_at_q4 WSr_at_q4 loadWP splice_full Int.natCast_inj
@[simp] theorem sp10 (a : Nat) : splice ([AV.int .u64 0, AV.int .u64 0, AV.int .u64 0, AV.int .u64 0]) 0 (q4 a) = q4 a := by kernel_rfl
@[simp] theorem sp20 (a : Nat) : splice ([AV.int .u64 0, AV.int .u64 0, AV.int .u64 0, AV.int .u64 0, AV.int .u64 0, AV.int .u64 0, AV.int .u64 0, AV.int .u64 0]) 0 (q4 a) = q4 a ++ [AV.int .u64 0, AV.int .u64 0, AV.int .u64 0, AV.int .u64 0] := by kernel_rfl
@[simp] theorem sp21 (a b : Nat) : splice (q4 a ++ [AV.int .u64 0, AV.int .u64 0, AV.int .u64 0, AV.int .u64 0]) 4 (q4 b) = q4 a ++ q4 b := by kernel_rfl
@[simp] theorem sp30 (a : Nat) : splice ([AV.int .u64 0, AV.int .u64 0, AV.int .u64 0, AV.int .u64 0, AV.int .u64 0, AV.int .u64 0, AV.int .u64 0, AV.int .u64 0, AV.int .u64 0, AV.int .u64 0, AV.int .u64 0, AV.int .u64 0]) 0 (q4 a) = q4 a ++ [AV.int .u64 0, AV.int .u64 0, AV.int .u64 0, AV.int .u64 0, AV.int .u64 0, AV.int .u64 0, AV.int .u64 0, AV.int .u64 0] := by kernel_rfl
@[simp] theorem sp31 (a b : Nat) : splice (q4 a ++ [AV.int .u64 0, AV.int .u64 0, AV.int .u64 0, AV.int .u64 0, AV.int .u64 0, AV.int .u64 0, AV.int .u64 0, AV.int .u64 0]) 4 (q4 b) = q4 a ++ (q4 b ++ [AV.int .u64 0, AV.int .u64 0, AV.int .u64 0, AV.int .u64 0]) := by kernel_rfl
@[simp] theorem sp32 (a b c : Nat) : splice (q4 a ++ (q4 b ++ [AV.int .u64 0, AV.int .u64 0, AV.int .u64 0, AV.int .u64 0])) 8 (q4 c) = q4 a ++ (q4 b ++ q4 c) := by kernel_rfl
@[simp] theorem sp40 (a : Nat) : splice ([AV.int .u64 0, AV.int .u64 0, AV.int .u64 0, AV.int .u64 0, AV.int .u64 0, AV.int .u64 0, AV.int .u64 0, AV.int .u64 0, AV.int .u64 0, AV.int .u64 0, AV.int .u64 0, AV.int .u64 0, AV.int .u64 0, AV.int .u64 0, AV.int .u64 0, AV.int .u64 0]) 0 (q4 a) = q4 a ++ [AV.int .u64 0, AV.int .u64 0, AV.int .u64 0, AV.int .u64 0, AV.int .u64 0, AV.int .u64 0, AV.int .u64 0, AV.int .u64 0, AV.int .u64 0, AV.int .u64 0, AV.int .u64 0, AV.int .u64 0] := by kernel_rfl
@[simp] theorem sp41 (a b : Nat) : splice (q4 a ++ [AV.int .u64 0, AV.int .u64 0, AV.int .u64 0, AV.int .u64 0, AV.int .u64 0, AV.int .u64 0, AV.int .u64 0, AV.int .u64 0, AV.int .u64 0, AV.int .u64 0, AV.int .u64 0, AV.int .u64 0]) 4 (q4 b) = q4 a ++ (q4 b ++ [AV.int .u64 0, AV.int .u64 0, AV.int .u64 0, AV.int .u64 0, AV.int .u64 0, AV.int .u64 0, AV.int .u64 0, AV.int .u64 0]) := by kernel_rfl
@[simp] theorem sp42 (a b c : Nat) : splice (q4 a ++ (q4 b ++ [AV.int .u64 0, AV.int .u64 0, AV.int .u64 0, AV.int .u64 0, AV.int .u64 0, AV.int .u64 0, AV.int .u64 0, AV.int .u64 0])) 8 (q4 c) = q4 a ++ (q4 b ++ (q4 c ++ [AV.int .u64 0, AV.int .u64 0, AV.int .u64 0, AV.int .u64 0])) := by kernel_rfl
@[simp] theorem sp43 (a b c d : Nat) : splice (q4 a ++ (q4 b ++ (q4 c ++ [AV.int .u64 0, AV.int .u64 0, AV.int .u64 0, AV.int .u64 0]))) 12 (q4 d) = q4 a ++ (q4 b ++ (q4 c ++ q4 d)) := by kernel_rfl
def subP (a b : Nat) : Nat := (a + negP b) % p25
theorem fFdSub_spec (a b : Nat) (ha : a < p25) (hb : b < p25) : FSpec Tryz.prog 81 [.agg (q4 a), .agg (q4 b)] [] (.agg (q4 (subP a b))) [] := by
  have hp := p25_lt
  have hn := negP_lt b
  have hA := fFdAdd_spec [a, negP b] ⟨false, true, false⟩ (by intro x hx; simp at hx; rcases hx with rfl | rfl <;> omega) (by simp)
  rw [show [a, negP b].sum % p25 = subP a b by simp [subP]] at hA
  have hN := fFdNeg_spec b hb
  refine FSpec.of_W fFdSub_low (by simp) ?_
  simp only [initEnv]
  simp
  refine WO_callP [] rfl rfl hN (by simp) (by simp) ?_
  simp
  refine WO_callP (as' := [.list 4 ⟨false, true, false⟩ (els [a, negP b])]) [] rfl (by simp [els1]) hA (by simp) (by simp) ?_
  simp
  exact fin_W (by simp)
theorem fFdPower_spec (a e : Nat) (ha : a < p25) (he : e < 2 ^ 256) : FSpec Tryz.prog 104 [.agg (q4 a), .agg (q4 e)] [] (.agg (q4 (a ^ e % p25))) [] := by
  have hp := p25_lt
  have hT := fFdTimes_spec
  have hS := fFdSmall_spec 1 (by decide)
  have hpos := p25_pos
  have h1 : 1 % p25 = 1 := by decide
  generalize p25 = p at *
  refine FSpec.of_W fFdPower_low (by simp) ?_
  simp only [initEnv]
  simp
  refine WO_callP [] rfl rfl hS (by simp) (by simp) ?_
  simp
  refine W_loop (X := { k : Nat // k ≤ 256 }) (fun i => [(2, .ptr 0 0), (3, .ptr 1 0), (4, .ptr 2 0), (5, .ptr 3 0), (6, .int .i64 ((i.1 : Int) - 1))]) (fun i => [some ⟨q4 a, 100, true⟩, some ⟨q4 e, 51, true⟩, some ⟨q4 0, 100, true⟩, some ⟨q4 (a ^ (e / 2 ^ i.1) % p), 100, true⟩]) (fun i => i.1) ⟨256, by omega⟩ retPost_le ?_ ?_
  · have e0 : e / 2 ^ 256 = 0 := Nat.div_eq_of_lt he
    exact cut_w (by simp [e0, q4_zero, h1])
  · rintro ⟨i, hi⟩
    obtain _ | k := i
    · simp
      exact fin_W (by simp)
    · simp
      have hm := Nat.mod_lt (a ^ (e / 2 ^ (k + 1))) hpos
      obtain ⟨v, hv⟩ : ∃ v, v = a ^ (e / 2 ^ (k + 1)) % p := ⟨_, rfl⟩
      rw [← hv] at hm ⊢
      have hT1 := hT v v (by omega) (by omega)
      have hT2 := hT (v * v % p) a (by have := Nat.mod_lt (v * v) hpos; omega) (by omega)
      refine WO_callP [] rfl rfl hT1 (by simp) (by simp) ?_
      obtain ⟨q, hq⟩ : ∃ q, q = k / 64 := ⟨_, rfl⟩
      obtain ⟨r, hr⟩ : ∃ r, r = k % 64 := ⟨_, rfl⟩
      have e1 : (k : Int).tdiv 64 = (q : Int) := by rw [hq]; rfl
      have e2 : (k : Int).tmod 64 = (r : Int) := by rw [hr]; rfl
      have e5 : ((wd e q : Nat) : Int).fdiv (2 ^ min r 64) = ((wd e q / 2 ^ r : Nat) : Int) := by rw [show min r 64 = r by omega]; exact shr_nat _ _
      have e6 : (q : Int) < 4 := by omega
      have e7 : q < 4 := by omega
      have e3 := wd_bit' e k
      rw [← hq, ← hr] at e3
      have e9 : wd e q / 2 ^ r < 2 ^ 64 := Nat.lt_of_le_of_lt (Nat.div_le_self _ _) (wd_lt e q)
      generalize wd e q / 2 ^ r = z at *
      have e8 := and1_u64 e9
      rw [e3] at e8
      obtain ⟨y, hy⟩ : ∃ y, y = e / 2 ^ k % 2 := ⟨_, rfl⟩
      rw [← hy] at e8
      have hb : e / 2 ^ k = 2 * (e / 2 ^ (k + 1)) + y := by rw [hy, Nat.pow_succ, ← Nat.div_div_eq_div_mul]; omega
      have hy2 : y < 2 := by rw [hy]; exact Nat.mod_lt _ (by decide)
      have hv2 : v * v % p = a ^ (2 * (e / 2 ^ (k + 1))) % p := by rw [hv, ← Nat.mul_mod, ← Nat.pow_add, Nat.two_mul]
      simp [e1, e2, e6, e7, e5, e8, IntKind.bits, wrap64s (n := (q : Int)) (by omega) (by omega)]
      refine WC_dec (fun h => ?_) (fun h => ?_)
      · have h' : y = 1 := by omega
        simp
        refine WO_callP [] rfl rfl hT2 (by simp) (by simp) ?_
        have hn : v * v % p * a % p = a ^ (e / 2 ^ k) % p := by
          rw [hv2, Nat.mod_mul_mod, hb, h']
          rfl
        rw [hn]
        simp
        refine ⟨⟨k, by omega⟩, by simp, ?_⟩
        exact cut_w (by simp [wrap64s (n := (k : Int) - 1) (by omega) (by omega)])
      · have h' : y = 0 := by omega
        have hn : v * v % p = a ^ (e / 2 ^ k) % p := by rw [hv2, hb, h']; rfl
        rw [hn]
        simp
        refine ⟨⟨k, by omega⟩, by simp, ?_⟩
        exact cut_w (by simp [wrap64s (n := (k : Int) - 1) (by omega) (by omega)])
def invP (a : Nat) : Nat := a ^ (p25 - 2) % p25
theorem fFdInvert_spec (a : Nat) (ha : a < p25) : FSpec Tryz.prog 84 [.agg (q4 a)] [] (.agg (q4 (invP a))) [] := by
  have hM := fFdModulus_spec
  have hS := fFdSmall_spec 2 (by decide)
  have hm := fFdMinus_spec p25 2 (by decide)
  have hP := fFdPower_spec a (p25 - 2) ha (by decide)
  rw [show a ^ (p25 - 2) % p25 = invP a from rfl] at hP
  generalize p25 - 2 = e at *
  generalize p25 = p at *
  refine FSpec.of_W fFdInvert_low (by simp) ?_
  simp only [initEnv]
  simp
  refine WO_callP [] rfl rfl hM (by simp) (by simp) ?_
  simp
  refine WO_callP [] rfl rfl hS (by simp) (by simp) ?_
  simp
  refine WO_callP [] rfl rfl hm (by simp) (by simp) ?_
  simp
  refine WO_callP [] rfl rfl hP (by simp) (by simp) ?_
  simp
  exact fin_W (by simp)
end Go.Proofs.YthgibibeoapfbaaGreat
namespace Go.Proofs.YthgibibeoapfbaaGreat
open Go Go.Fw
attribute [local irreducible] W WX WR WO WS WSr WH WHA WG WC FSpec
attribute [local simp] WS_at_map WSr_at_map WS_at_q4 WSr_at_q4 WS_at_mx mx_set' WS_at_arr WSr_at_arr loadWP splice_full Int.natCast_inj arr_zero32 fill_zero arr_set upd_fill
theorem enc_val (n i q s : Nat) (hq : q = i / 8) (hs : s = 8 * (i % 8)) : IntKind.u8.wrap (((wd n q : Nat) : Int).fdiv (2 ^ min s 64)) = (byt n i : Nat) := by
  have h : i % 8 < 8 := Nat.mod_lt _ (by decide)
  rw [show min s 64 = s by omega, shr_nat, wrapu8, hq, hs, wd_byt]
def decP (n : Nat) : AV := if n < p25 then .tuple [.agg (q4 n), .int .i64 0] else .tuple [.agg (q4 0), .int .i64 7]
theorem or_val (m i q s x : Nat) (hq : q = i / 8) (hs : s = 8 * (i % 8)) (hm : m < 256 ^ i) (hx : x < 256) : bitI .or .u64 (wd m q : Nat) (IntKind.u64.wrap ((x : Int) * 2 ^ min s 64)) = (wd m q + x * 2 ^ s : Nat) := by
  have h : i % 8 < 8 := Nat.mod_lt _ (by decide)
  have h1 := wd_top hm
  rw [← hq, ← hs] at h1
  have h2 : x * 2 ^ s < 2 ^ 64 := by
    refine Nat.lt_of_lt_of_le (Nat.mul_lt_mul_of_pos_right hx (Nat.pow_pos (by decide))) ?_
    rw [show (256 : Nat) = 2 ^ 8 from rfl, ← Nat.pow_add]
    exact Nat.pow_le_pow_right (by decide) (by omega)
  have e : (x : Int) * 2 ^ min s 64 = ((x * 2 ^ s : Nat) : Int) := by rw [show min s 64 = s by omega]; simp
  rw [e, wrapu64, Nat.mod_eq_of_lt h2, bitI_or rfl (wd_lt m q) h2, or_shl _ _ _ h1]
theorem byN_take32 (l : List UInt8) (i : Nat) (h : i < l.length) : byN (l.take i) < 256 ^ i := by
  have := byN_lt (l.take i)
  rwa [List.length_take, Nat.min_eq_left (by omega)] at this
theorem fFdDecode_spec (l : List UInt8) (hl : l.length = 32) : FSpec Tryz.prog 78 [.agg (l.map bv)] [] (decP (byN l)) [] := by
  have hO := fFdModulus_spec
  have hM2 : p25 < 2 ^ 256 := by decide
  simp only [decP]
  generalize p25 = M at *
  refine FSpec.of_W fFdDecode_low (by simp) ?_
  simp only [initEnv]
  simp
  refine ⟨by omega, ?_⟩
  refine W_loop (X := { i : Nat // i ≤ 32 }) (fun i => [(2, .ptr 1 0), (4, .ptr 2 0), (7, .agg (l.map bv)), (8, .int .i64 i.1)]) (fun i => [some ⟨l.map bv, 22, true⟩, some ⟨q4 0, 100, true⟩, some ⟨q4 (byN (l.take i.1)), 100, true⟩]) (fun i => 32 - i.1) ⟨0, by omega⟩ retPost_le ?_ ?_
  · exact cut_w (by simp [hl, List.take_of_length_le, byN, q4_zero])
  · rintro ⟨i, hi⟩
    simp only
    simp
    refine WC_dec (fun h => ?_) (fun h => ?_)
    · have hil : i < l.length := by omega
      have hc : l[i]? = some l[i] := by simp
      obtain ⟨q, hq⟩ : ∃ q, q = i / 8 := ⟨_, rfl⟩
      obtain ⟨r, hr⟩ : ∃ r, r = i % 8 := ⟨_, rfl⟩
      obtain ⟨s, hs⟩ : ∃ s, s = 8 * r := ⟨_, rfl⟩
      have e1 : (i : Int).tdiv 8 = (q : Int) := by rw [hq]; rfl
      have e2 : (i : Int).tmod 8 = (r : Int) := by rw [hr]; rfl
      have e3 : IntKind.i64.wrap (8 * (r : Int)) = (s : Int) := by rw [wrap64s (by omega) (by omega)]; omega
      have hx := UInt8.toNat_lt l[i]
      have e4 := or_val (byN (l.take i)) i q s l[i].toNat hq (by omega) (byN_take32 l i hil) hx
      have e5 : (q : Int) < 4 := by omega
      have e6 : q < 4 := by omega
      have e7 := q4_put (byN (l.take i)) i l[i].toNat (byN_take32 l i hil) hx
      rw [← byN_take l i hil, ← hq, ← hr, ← hs] at e7
      have e8 : IntKind.u64.wrap ((l[i].toNat : Nat) : Int) = (l[i].toNat : Nat) := by rw [wrapu64]; congr 1; omega
      obtain ⟨v, hv⟩ : ∃ v, v = wd (byN (l.take i)) q + l[i].toNat * 2 ^ s := ⟨_, rfl⟩
      rw [← hv] at e4 e7
      simp [h, hc, e1, e2, e3, e4, e5, e6, e8, IntKind.bits, wrap64s (n := (q : Int)) (by omega) (by omega)]
      refine ⟨by omega, ⟨i + 1, by omega⟩, by simp; omega, ?_⟩
      exact cut_w (by simp [e7, wrap64s (n := (i : Int) + 1) (by omega) (by omega)])
    · have : i = 32 := by omega
      subst this
      have hlt : byN l < 2 ^ 256 := by have := byN_lt l; rw [hl] at this; exact this
      simp [List.take_of_length_le (show l.length ≤ 32 by omega)]
      refine WO_callP [] rfl rfl hO (by simp) (by simp) ?_
      simp
      refine WO_callP [] rfl rfl (fFdLess_spec (byN l) M hlt hM2) (by simp) (by simp) ?_
      simp
      refine WC_ndec (fun h => ?_) (fun h => ?_)
      · simp
        exact fin_W (by simp [h, q4_zero])
      · simp
        exact fin_W (by simp [h])
def rootR' (p a r ri : Nat) : Nat := if r * r % p = a then r else r * ri % p
def rootF' (p a r ri : Nat) : Nat × Bool := if rootR' p a r ri * rootR' p a r ri % p = a then (if rootR' p a r ri % 2 = 1 then (if rootR' p a r ri = 0 then 0 else p - rootR' p a r ri) else rootR' p a r ri, true) else (0, false)
theorem fFdRoot_abs (p a e r ri : Nat) (ha : a < p) (hr : r < p) (hri : ri < p) (hp : p < 2 ^ 255)
    (hP : FSpec Tryz.prog 104 [.agg (q4 a), .agg [.int .u64 18446744073709551614, .int .u64 18446744073709551615, .int .u64 18446744073709551615, .int .u64 1152921504606846975]] [] (.agg (q4 r)) [])
    (hI : q4 ri = [.int .u64 14190309331451158704, .int .u64 3405592160176694392, .int .u64 3120150775007532967, .int .u64 3135389899092516619])
    (hT : ∀ a b, a < 2 ^ 256 → b < 2 ^ 256 → FSpec Tryz.prog 101 [.agg (q4 a), .agg (q4 b)] [] (.agg (q4 (a * b % p))) [])
    (hN : ∀ a, a < p → FSpec Tryz.prog 86 [.agg (q4 a)] [] (.agg (q4 (if a = 0 then 0 else p - a))) []) :
    FSpec Tryz.prog 85 [.agg (q4 a)] [] (.tuple [.agg (q4 (rootF' p a r ri).1), .bool (rootF' p a r ri).2]) [] := by
  have hO := fFdOdd_spec
  have hpos : 0 < p := by omega
  have hm : ∀ x, x % p < 2 ^ 255 := fun x => Nat.lt_trans (Nat.mod_lt x hpos) hp
  have hR1 : rootR' p a r ri < p := by unfold rootR'; split; exact hr; exact Nat.mod_lt _ hpos
  obtain ⟨r1, hr1⟩ : ∃ r1, r1 = rootR' p a r ri := ⟨_, rfl⟩
  obtain ⟨R, hR⟩ : ∃ R, R = rootF' p a r ri := ⟨_, rfl⟩
  rw [← hR]
  simp only [rootF', ← hr1] at hR
  rw [← hr1] at hR1
  have i4 : ∀ {x y : Nat}, x < 2 ^ 255 → y < 2 ^ 255 → (ints (q4 x) = ints (q4 y)) = (x = y) := fun hx hy => ints_q4 (by omega) (by omega)
  refine FSpec.of_W (c := (.seq (.reg fFdRoot_r0) (.seq (.reg fFdRoot_r1) (.seq (.seq (.draw fFdRoot_r2) (.cond (.t 12) fFdRoot_k0 (.kill [12] .skip))) (.keep [1, 2, 4] (.cut (.seq (.seq (.draw fFdRoot_r4) (.cond (.t 20) fFdRoot_k1 (.kill [20] .skip))) (.keep [2, 4] (.seq (.seq (.reg fFdRoot_r6) (.cond (.t 23) fFdRoot_k2 (.kill [23] .skip))) (.keep [2, 4] (.seq (.reg fFdRoot_r8) .ret))))))))))) fFdRoot_low (by simp) ?_
  simp only [initEnv]
  have hrest : W Tryz.prog 0 [It.c (.seq (.seq (.draw fFdRoot_r4) (.cond (.t 20) fFdRoot_k1 (.kill [20] .skip))) (.keep [2, 4] (.seq (.seq (.reg fFdRoot_r6) (.cond (.t 23) fFdRoot_k2 (.kill [23] .skip))) (.keep [2, 4] (.seq (.reg fFdRoot_r8) .ret)))))]
      [(1, .ptr 0 0), (2, .ptr 1 0), (4, .ptr 2 0)] [some ⟨q4 a, 100, true⟩, some ⟨q4 0, 100, true⟩, some ⟨q4 r1, 100, true⟩] (retPost fFdRoot_rs (fin 0 (.tuple [.agg (q4 R.1), .bool R.2]) [])) := by
    simp
    refine WO_callP [] rfl rfl (hT r1 r1 (by omega) (by omega)) (by simp) (by simp) ?_
    simp
    refine WC_ndec (fun h => ?_) (fun h => ?_)
    · rw [i4 (hm _) (by omega)] at h
      rw [hR, if_neg h]
      simp
      exact fin_W (by simp [q4_zero])
    · rw [i4 (hm _) (by omega)] at h
      rw [if_pos h] at hR
      simp
      refine WO_callP [] rfl rfl (hO r1) (by simp) (by simp) ?_
      simp
      refine WC_dec (fun h2 => ?_) (fun h2 => ?_)
      · rw [if_pos h2] at hR
        rw [hR]
        simp
        refine WO_callP [] rfl rfl (hN r1 hR1) (by simp) (by simp) ?_
        simp
        exact fin_W (by simp)
      · rw [if_neg h2] at hR
        rw [hR]
        simp
        exact fin_W (by simp)
  simp
  refine WO_callP [] rfl rfl hP (by simp) (by simp) ?_
  simp
  refine WO_callP [] rfl rfl (hT r r (by omega) (by omega)) (by simp) (by simp) ?_
  simp
  refine WC_ndec (fun h => ?_) (fun h => ?_)
  · rw [i4 (hm _) (by omega)] at h
    rw [rootR', if_neg h] at hr1
    have hTi := hT r ri (by omega) (by omega)
    rw [← hr1, hI] at hTi
    simp
    refine WO_callP [] rfl rfl hTi (by simp) (by simp) ?_
    simp
    exact W_cut (cut_w (by simp [q4_zero])) hrest
  · rw [i4 (hm _) (by omega)] at h
    rw [rootR', if_pos h] at hr1
    simp
    exact W_cut (cut_w (by simp [q4_zero, hr1])) hrest
theorem rootF_eq (a : Nat) : rootF' p25 a (a ^ ((p25 + 3) / 8) % p25) rootI = rootF a := by
  have h : a ^ ((p25 + 3) / 8) % p25 = pwm p25 a 256 ((p25 + 3) / 8) := (pwm_eq _ _ _ _ (by decide +kernel)).symm
  rw [h]
  rfl
theorem fFdRoot_spec (a : Nat) (ha : a < p25) : FSpec Tryz.prog 85 [.agg (q4 a)] [] (.tuple [.agg (q4 (rootF a).1), .bool (rootF a).2]) [] := by
  have hP := fFdPower_spec a ((p25 + 3) / 8) ha (by decide +kernel)
  have hE : q4 ((p25 + 3) / 8) = [.int .u64 18446744073709551614, .int .u64 18446744073709551615, .int .u64 18446744073709551615, .int .u64 1152921504606846975] := by kernel_rfl
  rw [hE] at hP
  have := fFdRoot_abs p25 a 0 _ rootI ha (Nat.mod_lt _ p25_pos) (by decide +kernel) p25_lt hP (by kernel_rfl) fFdTimes_spec fFdNeg_spec
  rwa [rootF_eq] at this
end Go.Proofs.YthgibibeoapfbaaGreat
namespace Go.Proofs.YthgibibeoapfbaaGreat
open Go Go.Fw
attribute [local irreducible] W WX WR WO WS WSr WH WHA WG WC FSpec
attribute [local simp] WS_at_map WSr_at_map WS_at_arr WSr_at_arr loadWP splice_full Int.natCast_inj arr_zero32 z17 z34 fill_zero arr_set arr_take
theorem fQP_spec : FSpec Tryz.prog 72 [] [] (.agg (q17 p25)) [] := by
  have e1 : ∀ i, i < 17 → (arr .i64 17 (fill i fun _ => 32767)).set i (.int .i64 32767) = arr .i64 17 (fill (i + 1) fun _ => 32767) := fun i hi => by
    rw [← upd_fill]; exact arr_set .i64 17 _ i 32767
  have e2 : (arr .i64 17 (fill 17 fun _ => 32767)).set 0 (.int .i64 32749) = q17 p25 := by
    refine (arr_set .i64 17 _ 0 32749).trans (arr_ext fun k hk => ?_)
    have : ∀ k, k < 17 → upd (fill 17 fun _ => 32767) 0 32749 k = dig p25 k := by decide +kernel
    exact this k hk
  refine FSpec.of_W fQP_low (by simp) ?_
  simp only [initEnv]
  simp
  refine W_loop (X := { i : Nat // i ≤ 17 }) (fun i => [(0, .ptr 0 0), (1, .ptr 1 0), (2, .int .i64 i.1)]) (fun i => [some ⟨arr .i64 17 fun _ => 0, 56, true⟩, some ⟨arr .i64 17 (fill i.1 fun _ => 32767), 56, true⟩]) (fun i => 17 - i.1) ⟨0, by omega⟩ retPost_le ?_ ?_
  · exact cut_w (by simp)
  · rintro ⟨i, hi⟩
    simp only
    simp
    refine WC_dec (fun h => ?_) (fun h => ?_)
    · simp
      refine ⟨h, by omega, ⟨i + 1, by omega⟩, by simp; omega, ?_⟩
      exact cut_w (by simp [e1 i (by omega), wrap64s (n := (i : Int) + 1) (by omega) (by omega)])
    · have : i = 17 := by omega
      subst this
      simp [e2]
      exact fin_W (by simp)
theorem fQLess_spec (a b : Nat) (ha : a < 2 ^ 255) (hb : b < 2 ^ 255) : FSpec Tryz.prog 76 [.agg (q17 a), .agg (q17 b)] [] (.bool (decide (a < b))) [] := by
  rw [two255] at ha hb
  simp only [q17]
  refine FSpec.of_W fQLess_low (by simp) ?_
  simp only [initEnv]
  simp
  refine W_loop (X := { i : Nat // i ≤ 17 ∧ a / 32768 ^ i = b / 32768 ^ i }) (fun i => [(2, .ptr 0 0), (3, .ptr 1 0), (5, .int .i64 ((i.1 : Int) - 1))]) (fun _ => [some ⟨arr .i64 17 (dig a), 56, true⟩, some ⟨arr .i64 17 (dig b), 56, true⟩]) (fun i => i.1) ⟨17, by omega, by rw [Nat.div_eq_of_lt ha, Nat.div_eq_of_lt hb]⟩ retPost_le ?_ ?_
  · exact cut_w (by simp)
  · rintro ⟨i, hi, he⟩
    obtain _ | k := i
    · simp
      refine fin_W ?_
      simp at he
      simp [he]
    · have h4 : k < 17 := by omega
      simp [h4]
      refine ⟨by omega, ?_⟩
      refine WC_ndec (fun h => ?_) (fun h => ?_)
      · simp [h4]
        refine ⟨by omega, ?_⟩
        refine fin_W ?_
        simp
        rw [dig_cmp he (by omega)]
      · simp
        refine ⟨⟨k, by omega, dig_eq he (by omega)⟩, by simp, ?_⟩
        exact cut_w (by simp [wrap64s (n := (k : Int) - 1) (by omega) (by omega)])
theorem fQUnder_spec (a b : Nat) (ha : a < 2 ^ 255) (h : b ≤ a) : FSpec Tryz.prog 71 [.agg (q17 a), .agg (q17 b)] [] (.agg (q17 (a - b))) [] := by
  have hva : vs (dig a) 17 = a := vs17 ha
  have hvb : vs (dig b) 17 = b := vs17 (by omega)
  simp only [q17]
  refine FSpec.of_W fQUnder_low (by simp) ?_
  simp only [initEnv]
  simp
  refine W_loop (X := { x : Nat × (Nat → Nat) × Nat // x.1 ≤ 17 ∧ (∀ k, k < x.1 → x.2.1 k < 32768) ∧ (∀ k, x.1 ≤ k → x.2.1 k = dig a k) ∧ x.2.2 ≤ 1 ∧ vs x.2.1 x.1 + vs (dig b) x.1 = vs (dig a) x.1 + x.2.2 * 32768 ^ x.1 })
    (fun x => [(2, .ptr 0 0), (3, .ptr 1 0), (4, .ptr 2 0), (5, .int .i64 (x.1.2.2 : Nat)), (6, .int .i64 x.1.1)]) (fun x => [some ⟨arr .i64 17 x.1.2.1, 56, true⟩, some ⟨arr .i64 17 (dig b), 56, true⟩, some ⟨arr .i64 17 fun _ => 0, 56, true⟩]) (fun x => 17 - x.1.1) ⟨(0, dig a, 0), by simp, by simp, fun _ _ => rfl, by simp, by simp [vs]⟩ retPost_le ?_ ?_
  · exact cut_w (by simp)
  · rintro ⟨⟨i, g, o⟩, hi, hg, hr, ho, hv⟩
    simp only at hi hg hr ho hv ⊢
    simp
    refine WC_dec (fun hl => ?_) (fun hl => ?_)
    · have h1 := dig_lt a i
      have h2 := dig_lt b i
      have hgi := hr i (Nat.le_refl _)
      obtain ⟨x, hx⟩ : ∃ x, x = dig a i := ⟨_, rfl⟩
      obtain ⟨y, hy⟩ : ∃ y, y = dig b i := ⟨_, rfl⟩
      rw [← hx] at h1 hgi
      rw [← hy] at h2
      have e1 : IntKind.i64.wrap ((x : Int) - y) = (x : Int) - y := wrap64s (by omega) (by omega)
      have e2 : IntKind.i64.wrap ((x : Int) - y - o) = (x : Int) - y - o := wrap64s (by omega) (by omega)
      have nx : ∀ (z : Nat) (o' : Nat), z < 32768 → o' ≤ 1 → z + y + o = x + o' * 32768 → ∀ k, k = i + 1 → vs (upd g i z) (i + 1) + vs (dig b) (i + 1) = vs (dig a) (i + 1) + o' * 32768 ^ (i + 1) := by
        intro z o' hz ho' he k hk
        have E := congrArg (· * 32768 ^ i) he
        simp only [Nat.add_mul] at E
        rw [vs, vs, vs, vs_upd (Nat.le_refl _), show upd g i z i = z from if_pos rfl, ← hx, ← hy, Nat.pow_succ]
        have : o' * (32768 ^ i * 32768) = o' * 32768 * 32768 ^ i := by ac_rfl
        omega
      simp [hgi, ← hy, e1, e2]
      repeat (refine ⟨by omega, ?_⟩)
      have w1 : IntKind.i64.wrap ((i : Int) + 1) = (i : Int) + 1 := wrap64s (by omega) (by omega)
      refine WC_dec (fun hn => ?_) (fun hn => ?_)
      · obtain ⟨z, hz⟩ : ∃ z : Nat, (z : Int) = (x : Int) - y - o + 32768 := ⟨x + 32768 - y - o, by omega⟩
        have e3 : IntKind.i64.wrap ((x : Int) - y - o + 32768) = (z : Int) := by rw [hz]; exact wrap64s (by omega) (by omega)
        simp [e3]
        repeat (refine ⟨by omega, ?_⟩)
        refine ⟨⟨(i + 1, upd g i z, 1), by simp only; omega, ?_, ?_, by simp, nx z 1 (by omega) (by omega) (by omega) (i + 1) rfl⟩, by simp only; omega, cut_w (by simp [w1])⟩
        · intro k hk
          simp only at hk ⊢
          unfold upd
          split
          · omega
          · exact hg k (by omega)
        · intro k hk
          simp only at hk ⊢
          unfold upd
          rw [if_neg (by omega)]
          exact hr k (by omega)
      · obtain ⟨z, hz⟩ : ∃ z : Nat, (z : Int) = (x : Int) - y - o := ⟨x - y - o, by omega⟩
        rw [← hz]
        simp
        repeat (refine ⟨by omega, ?_⟩)
        refine ⟨⟨(i + 1, upd g i z, 0), by simp only; omega, ?_, ?_, by simp, nx z 0 (by omega) (by omega) (by omega) (i + 1) rfl⟩, by simp only; omega, cut_w (by simp [w1])⟩
        · intro k hk
          simp only at hk ⊢
          unfold upd
          split
          · omega
          · exact hg k (by omega)
        · intro k hk
          simp only at hk ⊢
          unfold upd
          rw [if_neg (by omega)]
          exact hr k (by omega)
    · have hi17 : i = 17 := by omega
      subst hi17
      rw [hva, hvb] at hv
      have hlt := vs17_lt hg
      rw [← two255] at hv
      have ho0 : o = 0 := by omega
      have he : vs g 17 = a - b := by omega
      have hq := q17_vs hg
      rw [he, q17] at hq
      simp [hq]
      exact fin_W (by simp)
end Go.Proofs.YthgibibeoapfbaaGreat
namespace Go.Proofs.YthgibibeoapfbaaGreat
open Go Go.Fw
attribute [local irreducible] W WX WR WO WS WSr WH WHA WG WC FSpec
attribute [local simp] WS_at_map WSr_at_map WS_at_arr WSr_at_arr loadWP splice_full Int.natCast_inj arr_zero32 z17 z34 fill_zero arr_set arr_take
structure Rnd (r : Nat) (g : Nat → Nat) (V : Nat) : Prop where
  le : ∀ k, k < 17 → g k ≤ 2 ^ 40
  one : 1 ≤ r → vs g 17 < 2 ^ 255 + 2 ^ 32
  two : 2 ≤ r → vs g 17 < 2 ^ 255
  three : 3 ≤ r → ∀ k, k < 17 → g k < 32768
  mod : vs g 17 % p25 = V % p25
theorem Rnd.next {r : Nat} {g g' : Nat → Nat} {V c : Nat} (h : Rnd r g V) (hg : ∀ k, k < 17 → g' k < 32768) (hc : c ≤ 2 ^ 26) (hv : vs g' 17 + c * 2 ^ 255 = vs g 17) : Rnd (r + 1) (upd g' 0 (g' 0 + 19 * c)) V := by
  have hlt := vs17_lt hg
  have hu : vs (upd g' 0 (g' 0 + 19 * c)) 17 = vs g' 17 + 19 * c * 32768 ^ 0 := vs_upd_add (by decide)
  rw [Nat.pow_zero, Nat.mul_one] at hu
  refine ⟨fun k hk => ?_, fun h1 => ?_, fun h2 => ?_, fun h3 k hk => ?_, ?_⟩
  · unfold upd
    split
    · have := hg 0 (by decide); omega
    · have := hg k hk; omega
  · rw [hu]; omega
  · rw [hu]; have := h.one (by omega); omega
  · have h4 := h.two (by omega)
    have : c = 0 := by omega
    subst this
    unfold upd
    split
    · have := hg 0 (by decide); omega
    · exact hg k hk
  · rw [hu, ← h.mod, ← hv, Nat.mul_comm c, mod19]
theorem fQSettle_spec (g0 : Nat → Nat) (h0 : ∀ k, k < 17 → g0 k ≤ 2 ^ 40) : FSpec Tryz.prog 73 [.agg (arr .i64 17 g0)] [] (.agg (q17 (vs g0 17 % p25))) [] := by
  have hp := p25_lt
  have hP := fQP_spec
  have hpos := p25_pos
  have h2p : 2 ^ 255 < 2 * p25 := by decide
  refine FSpec.of_W fQSettle_low (by simp) ?_
  simp only [initEnv]
  simp
  refine W_loop (X := { x : Nat × (Nat → Nat) // x.1 ≤ 4 ∧ Rnd x.1 x.2 (vs g0 17) }) (fun x => [(1, .ptr 0 0), (2, .ptr 1 0), (3, .int .i64 x.1.1)]) (fun x => [some ⟨arr .i64 17 x.1.2, 56, true⟩, some ⟨arr .i64 17 fun _ => 0, 56, true⟩]) (fun x => 4 - x.1.1)
    ⟨(0, g0), by simp, h0, by simp, by simp, by simp, rfl⟩ retPost_le ?_ ?_
  · exact cut_w (by simp)
  · rintro ⟨⟨r, g⟩, hr, hR⟩
    simp only at hr hR ⊢
    simp
    refine WC_dec (fun hl => ?_) (fun hl => ?_)
    · simp
      refine W_loop (X := { x : Nat × (Nat → Nat) × Nat // x.1 ≤ 17 ∧ (∀ k, k < x.1 → x.2.1 k < 32768) ∧ (∀ k, x.1 ≤ k → x.2.1 k = g k) ∧ x.2.2 ≤ 2 ^ 26 ∧ vs x.2.1 x.1 + x.2.2 * 32768 ^ x.1 = vs g x.1 })
        (fun x => [(1, .ptr 0 0), (2, .ptr 1 0), (3, .int .i64 r), (4, .int .i64 (x.1.2.2 : Nat)), (5, .int .i64 x.1.1)]) (fun x => [some ⟨arr .i64 17 x.1.2.1, 56, true⟩, some ⟨arr .i64 17 fun _ => 0, 56, true⟩]) (fun x => 17 - x.1.1)
        ⟨(0, g, 0), by simp, by simp, fun _ _ => rfl, by simp, by simp [vs]⟩ retPost_le ?_ ?_
      · exact cut_w (by simp)
      · rintro ⟨⟨i, g', c⟩, hi, hg, hr', hc, hv⟩
        simp only at hi hg hr' hc hv ⊢
        simp
        refine WC_dec (fun hl => ?_) (fun hl => ?_)
        · have hx := hr' i (Nat.le_refl _)
          have hle := hR.le i (by omega)
          obtain ⟨x, hxe⟩ : ∃ x, x = g i := ⟨_, rfl⟩
          rw [← hxe] at hx hle
          obtain ⟨q, hq⟩ : ∃ q, q = (x + c) / 32768 := ⟨_, rfl⟩
          obtain ⟨z, hz⟩ : ∃ z, z = (x + c) % 32768 := ⟨_, rfl⟩
          have e1 : IntKind.i64.wrap ((x : Int) + c) = ((x + c : Nat) : Int) := by rw [← Int.natCast_add]; exact wrap64 (by omega) (by omega)
          have e2 : ((x + c : Nat) : Int).tmod 32768 = (z : Nat) := by rw [hz]; rfl
          have e3 : ((x + c : Nat) : Int).tdiv 32768 = (q : Nat) := by rw [hq]; rfl
          have e4 : IntKind.i64.wrap (q : Int) = q := wrap64 (by omega) (by omega)
          have w1 : IntKind.i64.wrap ((i : Int) + 1) = (i : Int) + 1 := wrap64s (by omega) (by omega)
          rw [Int.natCast_add] at e1 e2 e3
          simp [hx, e1, e2, e3, e4]
          repeat (refine ⟨by omega, ?_⟩)
          refine ⟨⟨(i + 1, upd g' i z, q), by simp only; omega, ?_, ?_, by simp only; omega, ?_⟩, by simp only; omega, cut_w (by simp [w1])⟩
          · intro k hk
            simp only at hk ⊢
            unfold upd
            split
            · omega
            · exact hg k (by omega)
          · intro k hk
            simp only at hk ⊢
            unfold upd
            rw [if_neg (by omega)]
            exact hr' k (by omega)
          · simp only
            have E : z + 32768 * q = x + c := by omega
            have E2 := congrArg (· * 32768 ^ i) E
            simp only [Nat.add_mul] at E2
            rw [vs, vs, vs_upd (Nat.le_refl _), show upd g' i z i = z from if_pos rfl, ← hxe, Nat.pow_succ]
            have : q * (32768 ^ i * 32768) = 32768 * q * 32768 ^ i := by ac_rfl
            omega
        · have hi17 : i = 17 := by omega
          subst hi17
          rw [← two255] at hv
          have hN := hR.next hg hc hv
          have h00 := hg 0 (by decide)
          obtain ⟨a, ha⟩ : ∃ a, a = g' 0 := ⟨_, rfl⟩
          rw [← ha] at hN h00
          have e1 : IntKind.i64.wrap (19 * (c : Int)) = ((19 * c : Nat) : Int) := by rw [show 19 * (c : Int) = ((19 * c : Nat) : Int) by omega]; exact wrap64 (by omega) (by omega)
          obtain ⟨b, hb⟩ : ∃ b, b = a + 19 * c := ⟨_, rfl⟩
          have e2 : IntKind.i64.wrap ((a : Int) + ((19 * c : Nat) : Int)) = (b : Nat) := by rw [← Int.natCast_add, hb]; exact wrap64 (by omega) (by omega)
          rw [← hb] at hN
          have e3 : IntKind.i64.wrap ((r : Int) + 1) = (r : Int) + 1 := wrap64s (by omega) (by omega)
          simp only [Int.natCast_mul, Int.cast_ofNat_Int] at e1 e2
          simp [← ha, e1, e2]
          repeat (refine ⟨by omega, ?_⟩)
          exact ⟨⟨(r + 1, upd g' 0 b), by simp only; omega, hN⟩, by simp only; omega, cut_w (by simp [e3])⟩
    · have : r = 4 := by omega
      subst this
      have hd := hR.three (by decide)
      have hlt := vs17_lt hd
      have hm := hR.mod
      obtain ⟨n, hn⟩ : ∃ n, n = vs g 17 := ⟨_, rfl⟩
      rw [q17_vs hd, ← hn]
      rw [← hn] at hlt hm
      rw [← hm]
      simp
      refine WO_callP [] rfl rfl hP (by simp) (by simp) ?_
      simp
      refine WO_callP [] rfl rfl (fQLess_spec n p25 hlt hp) (by simp) (by simp) ?_
      simp
      refine WC_ndec (fun h => ?_) (fun h => ?_)
      · simp
        refine WO_callP [] rfl rfl hP (by simp) (by simp) ?_
        simp
        refine WO_callP [] rfl rfl (fQUnder_spec n p25 hlt (by omega)) (by simp) (by simp) ?_
        have : n % p25 = n - p25 := by rw [Nat.mod_eq_sub_mod (by omega), Nat.mod_eq_of_lt (by omega)]
        rw [this]
        simp
        exact fin_W (by simp)
      · rw [Nat.mod_eq_of_lt h]
        simp
        exact fin_W (by simp)
theorem fQSmall_spec (n : Nat) (h : n ≤ 2 ^ 40) : FSpec Tryz.prog 42 [.int .i64 (n : Nat)] [] (.agg (q17 (n % p25))) [] := by
  have e : vs (upd (fun _ => 0) 0 n) 17 = n := by
    have := vs_upd_add (g := fun _ => 0) (i := 0) (v := n) (m := 17) (by decide)
    rw [Nat.zero_add] at this
    rw [this]
    have z : vs (fun _ => 0) 17 = 0 := by decide
    rw [z, Nat.pow_zero]; omega
  have hS := fQSettle_spec (upd (fun _ => 0) 0 n) (fun k _ => by unfold upd; split; exact h; exact Nat.zero_le _)
  rw [e] at hS
  refine FSpec.of_W fQSmall_low (by simp) ?_
  simp only [initEnv]
  simp
  refine WO_callP [] rfl rfl hS (by simp) (by simp) ?_
  simp
  exact fin_W (by simp)
theorem fQAdd_spec (a b : Nat) (ha : a < 2 ^ 255) (hb : b < 2 ^ 255) : FSpec Tryz.prog 43 [.agg (q17 a), .agg (q17 b)] [] (.agg (q17 ((a + b) % p25))) [] := by
  have hS := fQSettle_spec (fun k => dig a k + dig b k) (fun k _ => by have := dig_lt a k; have := dig_lt b k; omega)
  rw [vs_add, vs17 ha, vs17 hb] at hS
  refine FSpec.of_W fQAdd_low (by simp) ?_
  simp only [initEnv]
  simp [q17]
  refine W_loop (X := { i : Nat // i ≤ 17 }) (fun i => [(2, .ptr 0 0), (3, .ptr 1 0), (4, .ptr 2 0), (5, .int .i64 i.1)]) (fun i => [some ⟨arr .i64 17 (fun k => if k < i.1 then dig a k + dig b k else dig a k), 56, true⟩, some ⟨arr .i64 17 (dig b), 56, true⟩, some ⟨arr .i64 17 fun _ => 0, 56, true⟩]) (fun i => 17 - i.1) ⟨0, by omega⟩ retPost_le ?_ ?_
  · exact cut_w (by simp)
  · rintro ⟨i, hi⟩
    simp only
    simp
    refine WC_dec (fun h => ?_) (fun h => ?_)
    · have h1 := dig_lt a i
      have h2 := dig_lt b i
      have e1 : IntKind.i64.wrap ((dig a i : Int) + (dig b i : Int)) = ((dig a i + dig b i : Nat) : Int) := by rw [← Int.natCast_add]; exact wrap64 (by omega) (by omega)
      have w1 : IntKind.i64.wrap ((i : Int) + 1) = (i : Int) + 1 := wrap64s (by omega) (by omega)
      have e2 : upd (fun k => if k < i then dig a k + dig b k else dig a k) i (dig a i + dig b i) = fun k => if k < i + 1 then dig a k + dig b k else dig a k := by
        funext k
        unfold upd
        split
        · rename_i q; subst q; rw [if_pos (Nat.lt_succ_self _)]
        · show (if k < i then dig a k + dig b k else dig a k) = if k < i + 1 then dig a k + dig b k else dig a k
          by_cases hk : k < i
          · rw [if_pos hk, if_pos (by omega)]
          · rw [if_neg hk, if_neg (by omega)]
      obtain ⟨z, hz⟩ : ∃ z, z = dig a i + dig b i := ⟨_, rfl⟩
      rw [← hz] at e1 e2
      simp [e1, e2]
      repeat (refine ⟨by omega, ?_⟩)
      exact ⟨⟨i + 1, by omega⟩, by simp; omega, cut_w (by simp [w1])⟩
    · have : i = 17 := by omega
      subst this
      have e3 : arr .i64 17 (fun k => if k < 17 then dig a k + dig b k else dig a k) = arr .i64 17 (fun k => dig a k + dig b k) := arr_ext fun k hk => by rw [if_pos hk]
      simp [e3]
      refine WO_callP [] rfl rfl hS (by simp) (by simp) ?_
      simp
      exact fin_W (by simp [q17])
theorem settle_q17 (n : Nat) (hn : n < 2 ^ 255) : FSpec Tryz.prog 73 [.agg (q17 n)] [] (.agg (q17 (n % p25))) [] := by
  have hS := fQSettle_spec (dig n) (fun k _ => by have := dig_lt n k; omega)
  rwa [vs17 hn] at hS
theorem fQNeg_spec (a : Nat) (ha : a < p25) : FSpec Tryz.prog 41 [.agg (q17 a)] [] (.agg (q17 (negP a))) [] := by
  have hp := p25_lt
  have hU := fQUnder_spec p25 a hp (by omega)
  have hS := settle_q17 (p25 - a) (by omega)
  have e : (p25 - a) % p25 = negP a := by
    unfold negP; split
    · rename_i q; rw [q, Nat.sub_zero, Nat.mod_self]
    · exact Nat.mod_eq_of_lt (by omega)
  rw [e] at hS
  refine FSpec.of_W fQNeg_low (by simp) ?_
  simp only [initEnv]
  simp
  refine WO_callP [] rfl rfl fQP_spec (by simp) (by simp) ?_
  simp
  refine WO_callP [] rfl rfl hU (by simp) (by simp) ?_
  simp
  refine WO_callP [] rfl rfl hS (by simp) (by simp) ?_
  simp
  exact fin_W (by simp)
theorem fQSub_spec (a b : Nat) (ha : a < p25) (hb : b < p25) : FSpec Tryz.prog 74 [.agg (q17 a), .agg (q17 b)] [] (.agg (q17 (subP a b))) [] := by
  have hp := p25_lt
  have hn := negP_lt b
  have hA := fQAdd_spec a (negP b) (by omega) (by omega)
  refine FSpec.of_W fQSub_low (by simp) ?_
  simp only [initEnv]
  simp
  refine WO_callP [] rfl rfl (fQNeg_spec b hb) (by simp) (by simp) ?_
  simp
  refine WO_callP [] rfl rfl hA (by simp) (by simp) ?_
  simp
  exact fin_W (by simp [subP])
end Go.Proofs.YthgibibeoapfbaaGreat
namespace Go.Proofs.YthgibibeoapfbaaGreat
open Go Go.Fw
attribute [local irreducible] W WX WR WO WS WSr WH WHA WG WC FSpec
attribute [local simp] WS_at_map WSr_at_map WS_at_arr WSr_at_arr loadWP splice_full Int.natCast_inj arr_zero32 z17 z34 fill_zero arr_set arr_take
theorem fQMul_spec (a b : Nat) (ha : a < 2 ^ 255) (hb : b < 2 ^ 255) : FSpec Tryz.prog 36 [.agg (q17 a), .agg (q17 b)] [] (.agg (q17 (a * b % p25))) [] := by
  have hva := vs17 ha
  have hvb := vs17 hb
  have hset := fQSettle_spec
  have h19 := mod19
  generalize p25 = p at *
  refine FSpec.of_W fQMul_low (by simp) ?_
  simp only [initEnv]
  simp [q17]
  refine W_loop (X := { x : Nat × (Nat → Nat) // x.1 ≤ 17 ∧ (∀ j, j < 34 → x.2 j ≤ x.1 * 2 ^ 30) ∧ vs x.2 34 = vs (dig a) x.1 * b })
    (fun x => [(2, .ptr 0 0), (3, .ptr 1 0), (4, .ptr 2 0), (5, .ptr 3 0), (6, .int .i64 x.1.1)])
    (fun x => [some ⟨arr .i64 17 (dig a), 56, true⟩, some ⟨arr .i64 17 (dig b), 56, true⟩, some ⟨arr .i64 17 fun _ => 0, 56, true⟩, some ⟨arr .i64 34 x.1.2, 127, true⟩])
    (fun x => 17 - x.1.1) ⟨(0, fun _ => 0), by simp, by simp, by rw [show vs (dig a) 0 = 0 from rfl, Nat.zero_mul]; decide +kernel⟩ retPost_le ?_ ?_
  · exact cut_w (by simp)
  · rintro ⟨⟨i, g⟩, hi, hg, hv⟩
    simp only at hi hg hv ⊢
    simp
    refine WC_dec (fun hl => ?_) (fun hl => ?_)
    · have h1 := dig_lt a i
      obtain ⟨x, hx⟩ : ∃ x, x = dig a i := ⟨_, rfl⟩
      rw [← hx] at h1
      simp
      refine W_loop (X := { y : Nat × (Nat → Nat) // y.1 ≤ 17 ∧ (∀ j, j < 34 → y.2 j ≤ i * 2 ^ 30 + if j < i + y.1 then 2 ^ 30 else 0) ∧ vs y.2 34 = vs (dig a) i * b + x * 32768 ^ i * vs (dig b) y.1 })
        (fun y => [(2, .ptr 0 0), (3, .ptr 1 0), (4, .ptr 2 0), (5, .ptr 3 0), (6, .int .i64 i), (7, .int .i64 y.1.1)])
        (fun y => [some ⟨arr .i64 17 (dig a), 56, true⟩, some ⟨arr .i64 17 (dig b), 56, true⟩, some ⟨arr .i64 17 fun _ => 0, 56, true⟩, some ⟨arr .i64 34 y.1.2, 127, true⟩])
        (fun y => 17 - y.1.1) ⟨(0, g), by simp, fun j hj => Nat.le_trans (hg j hj) (Nat.le_add_right _ _), (by rw [show vs (dig b) 0 = 0 from rfl, Nat.mul_zero, Nat.add_zero]; exact hv : vs g 34 = vs (dig a) i * b + x * 32768 ^ i * vs (dig b) 0)⟩ retPost_le ?_ ?_
      · exact cut_w (by simp)
      · rintro ⟨⟨k, g'⟩, hk, hg', hv'⟩
        simp only at hk hg' hv' ⊢
        simp
        refine WC_dec (fun hl => ?_) (fun hl => ?_)
        · have h2 := dig_lt b k
          obtain ⟨y, hy⟩ : ∃ y, y = dig b k := ⟨_, rfl⟩
          rw [← hy] at h2
          obtain ⟨w, hw⟩ : ∃ w, w = g' (i + k) := ⟨_, rfl⟩
          have hwl := hg' (i + k) (by omega)
          rw [← hw, if_neg (by omega)] at hwl
          have hxy := Nat.mul_le_mul (show x ≤ 32767 by omega) (show y ≤ 32767 by omega)
          obtain ⟨v, hv1⟩ : ∃ v, v = x * y := ⟨_, rfl⟩
          rw [← hv1] at hxy
          have e1 : IntKind.i64.wrap ((x : Int) * y) = (v : Nat) := by rw [hv1, ← Int.natCast_mul]; exact wrap64 (by omega) (by omega)
          have e2 : IntKind.i64.wrap ((i : Int) + k) = (i : Int) + k := wrap64s (by omega) (by omega)
          have e3 : ((i : Int) + k).toNat = i + k := by omega
          obtain ⟨u, hu⟩ : ∃ u, u = w + v := ⟨_, rfl⟩
          have e4 : IntKind.i64.wrap ((w : Int) + v) = (u : Nat) := by rw [hu, ← Int.natCast_add]; exact wrap64 (by omega) (by omega)
          have w1 : IntKind.i64.wrap ((k : Int) + 1) = (k : Int) + 1 := wrap64s (by omega) (by omega)
          simp [← hx, ← hy, e1, e2, e3, ← hw, e4]
          repeat (refine ⟨by omega, ?_⟩)
          refine ⟨⟨(k + 1, upd g' (i + k) u), by simp only; omega, ?_, ?_⟩, by simp only; omega, cut_w (by simp [w1])⟩
          · intro j hj
            simp only at hj ⊢
            unfold upd
            split
            · rw [if_pos (by omega)]; omega
            · have := hg' j hj
              split at this
              · rw [if_pos (by omega)]; exact this
              · rw [if_neg (by omega)]; exact this
          · simp only
            have E := vs_upd_add (g := g') (i := i + k) (v := v) (m := 34) (by omega)
            rw [← hw, ← hu] at E
            rw [E, hv', vs, Nat.mul_add, ← hy, hv1, Nat.pow_add, ← Nat.add_assoc]
            congr 1
            ac_rfl
        · have : k = 17 := by omega
          subst this
          rw [hvb] at hv'
          have w1 : IntKind.i64.wrap ((i : Int) + 1) = (i : Int) + 1 := wrap64s (by omega) (by omega)
          simp
          refine ⟨⟨(i + 1, g'), by simp only; omega, ?_, ?_⟩, by simp only; omega, cut_w (by simp [w1])⟩
          · intro j hj
            have := hg' j hj
            simp only
            split at this <;> omega
          · simp only
            rw [hv', vs, ← hx, Nat.add_mul]
    · have : i = 17 := by omega
      subst this
      rw [hva] at hv
      have hsp := vs_split g 17 17
      rw [hv] at hsp
      have hmod : vs (fun k => g k + 19 * g (17 + k)) 17 % p = a * b % p := by
        rw [vs_add, vs_mul, ← h19, two255, ← hsp]
      have hS := hset (fun k => g k + 19 * g (17 + k)) (fun k hk => by have := hg k (by omega); have := hg (17 + k) (by omega); omega)
      rw [hmod] at hS
      clear hmod hsp hv
      simp
      refine W_loop (X := { k : Nat // k ≤ 17 }) (fun k => [(4, .ptr 2 0), (5, .ptr 3 0), (8, .ptr 4 0), (9, .int .i64 k.1)])
        (fun k => [some ⟨arr .i64 17 (dig a), 56, true⟩, some ⟨arr .i64 17 (dig b), 56, true⟩, some ⟨arr .i64 17 fun _ => 0, 56, true⟩, some ⟨arr .i64 34 g, 127, true⟩, some ⟨arr .i64 17 (fill k.1 (fun k => g k + 19 * g (17 + k))), 56, true⟩])
        (fun k => 17 - k.1) ⟨0, by simp⟩ retPost_le ?_ ?_
      · exact cut_w (by simp)
      · rintro ⟨k, hk⟩
        simp only
        simp
        refine WC_dec (fun hl => ?_) (fun hl => ?_)
        · have g1 := hg k (by omega)
          have g2 := hg (17 + k) (by omega)
          obtain ⟨x, hx⟩ : ∃ x, x = g k := ⟨_, rfl⟩
          obtain ⟨y, hy⟩ : ∃ y, y = g (17 + k) := ⟨_, rfl⟩
          rw [← hx] at g1
          rw [← hy] at g2
          have e2 : IntKind.i64.wrap ((k : Int) + 17) = (k : Int) + 17 := wrap64s (by omega) (by omega)
          have e3 : ((k : Int) + 17).toNat = 17 + k := by omega
          have e4 : IntKind.i64.wrap (19 * (y : Int)) = 19 * (y : Int) := wrap64s (by omega) (by omega)
          obtain ⟨u, hu⟩ : ∃ u, u = x + 19 * y := ⟨_, rfl⟩
          have e5 : IntKind.i64.wrap ((x : Int) + 19 * y) = (u : Nat) := by rw [show (x : Int) + 19 * y = (u : Nat) by omega]; exact wrap64 (by omega) (by omega)
          have e6 : upd (fill k (fun k => g k + 19 * g (17 + k))) k u = fill (k + 1) (fun k => g k + 19 * g (17 + k)) := by
            rw [hu, hx, hy]; exact upd_fill k _
          have w1 : IntKind.i64.wrap ((k : Int) + 1) = (k : Int) + 1 := wrap64s (by omega) (by omega)
          simp [e2, e3, ← hx, ← hy, e4, e5, e6]
          repeat (refine ⟨by omega, ?_⟩)
          exact ⟨⟨k + 1, by omega⟩, by simp only; omega, cut_w (by simp [w1])⟩
        · have : k = 17 := by omega
          subst this
          simp [arr_fill]
          refine WO_callP [] rfl rfl hS (by simp) (by simp) ?_
          simp
          exact fin_W (by simp [q17])
end Go.Proofs.YthgibibeoapfbaaGreat
namespace Go.Proofs.YthgibibeoapfbaaGreat
open Go Go.Fw
attribute [local irreducible] W WX WR WO WS WSr WH WHA WG WC FSpec
attribute [local simp] WS_at_map WSr_at_map WS_at_arr WSr_at_arr loadWP splice_full Int.natCast_inj arr_zero32 z17 z34 fill_zero arr_set arr_take
theorem fQFromBytes_spec (l : List UInt8) (hl : l.length = 32) : FSpec Tryz.prog 75 [.agg (l.map bv)] [] (.tuple [.agg (q17 (byN l % 2 ^ 255)), .bool (decide (2 ^ 255 ≤ byN l))]) [] := by
  obtain ⟨N, hN⟩ : ∃ N, N = byN l := ⟨_, rfl⟩
  have hbit : ∀ i, i < 256 → (l.getD (i / 8) 0).toNat / 2 ^ (i % 8) % 2 = N / 2 ^ i % 2 := fun i hi => by
    rw [hN]; exact byN_bitD l i
  have hhi : (128 ≤ (l.getD 31 0).toNat) = (2 ^ 255 ≤ N) := by
    have h1 : byN l / 256 ^ 31 = byN (l.drop 31) := byN_div l 31
    have h2 : l.drop 31 = [l.getD 31 0] := by
      rw [List.drop_eq_getElem_cons (by omega), List.drop_of_length_le (by omega), List.getD_eq_getElem?_getD, List.getElem?_eq_getElem (by omega)]
      rfl
    rw [h2, ← hN] at h1
    have h3 : byN [l.getD 31 0] = (l.getD 31 0).toNat := by simp [byN]
    rw [h3] at h1
    rw [← h1]
    apply propext
    rw [show (2 : Nat) ^ 255 = 128 * 256 ^ 31 from rfl, Nat.le_div_iff_mul_le (by decide)]
  rw [← hN]
  obtain ⟨M, hM⟩ : ∃ M, M = N % 2 ^ 255 := ⟨_, rfl⟩
  have hd : decide (2 ^ 255 ≤ N) = decide (128 ≤ (l.getD 31 0).toNat) := by simp only [hhi]
  obtain ⟨z, hz⟩ : ∃ z, z = l.getD 31 0 := ⟨_, rfl⟩
  have egz : l[31]? = some z := by
    rw [hz, List.getElem?_eq_getElem (by omega), List.getD_eq_getElem?_getD, List.getElem?_eq_getElem (by omega)]; rfl
  rw [← hM, hd, ← hz]
  clear hd hhi
  refine FSpec.of_W fQFromBytes_low (by simp) ?_
  simp only [initEnv]
  simp
  refine W_loop (X := { i : Nat // i ≤ 255 }) (fun i => [(1, .ptr 0 0), (2, .ptr 1 0), (4, .ptr 2 0), (5, .int .i64 i.1)])
    (fun i => [some ⟨l.map bv, 22, true⟩, some ⟨arr .i64 17 fun _ => 0, 56, true⟩, some ⟨arr .i64 17 (dig (N % 2 ^ i.1)), 56, true⟩]) (fun i => 255 - i.1) ⟨0, by omega⟩ retPost_le ?_ ?_
  · have e0 : arr .i64 17 (dig (N % 1)) = arr .i64 17 fun _ => 0 := arr_ext fun k _ => by simp [dig, Nat.mod_one]
    exact cut_w (by simp [e0])
  · rintro ⟨i, hi⟩
    simp only
    simp
    refine WC_dec (fun h => ?_) (fun h => ?_)
    · obtain ⟨q, hq⟩ : ∃ q, q = i / 8 := ⟨_, rfl⟩
      obtain ⟨r, hr⟩ : ∃ r, r = i % 8 := ⟨_, rfl⟩
      have e1 : (i : Int).tdiv 8 = (q : Int) := by rw [hq]; rfl
      have e2 : (i : Int).tmod 8 = (r : Int) := by rw [hr]; rfl
      have e3 : IntKind.i64.wrap (q : Int) = q := wrap64 (by omega) (by omega)
      have e4 := hbit i (by omega)
      rw [← hq, ← hr] at e4
      have eg : l[q]? = some (l.getD q 0) := by
        rw [List.getElem?_eq_getElem (by omega), List.getD_eq_getElem?_getD, List.getElem?_eq_getElem (by omega)]; rfl
      obtain ⟨x, hx⟩ : ∃ x, x = l.getD q 0 := ⟨_, rfl⟩
      rw [← hx] at e4 eg
      have hx8 := x.toNat_lt
      have e5 : ((x.toNat : Nat) : Int).fdiv (2 ^ min r 8) = ((x.toNat / 2 ^ r : Nat) : Int) := by rw [show min r 8 = r by omega]; exact shr_nat _ _
      obtain ⟨y, hy⟩ : ∃ y, y = N / 2 ^ i % 2 := ⟨_, rfl⟩
      have e6 : ((x.toNat / 2 ^ r : Nat) : Int).tmod 2 = (y : Nat) := by rw [hy, ← e4]; rfl
      obtain ⟨u, hu⟩ : ∃ u, u = x.toNat / 2 ^ r := ⟨_, rfl⟩
      rw [← hu] at e5 e6
      have w1 : IntKind.i64.wrap ((i : Int) + 1) = (i : Int) + 1 := wrap64s (by omega) (by omega)
      have hmb := mod_bit N i
      rw [← hy] at hmb
      simp [e1, e2, e3, e5, e6, eg, IntKind.bits]
      repeat (refine ⟨by omega, ?_⟩)
      refine WC_dec (fun hy1 => ?_) (fun hy1 => ?_)
      · have hy2 : y = 1 := by omega
        rw [hy2, Nat.one_mul] at hmb
        have hput := dig_put (m := N % 2 ^ i) (i := i) (Nat.mod_lt _ (Nat.two_pow_pos _))
        rw [← hmb] at hput
        obtain ⟨s, hs⟩ : ∃ s, s = i / 15 := ⟨_, rfl⟩
        obtain ⟨t, ht⟩ : ∃ t, t = i % 15 := ⟨_, rfl⟩
        rw [← hs, ← ht] at hput
        have f1 : (i : Int).tdiv 15 = (s : Int) := by rw [hs]; rfl
        have f2 : (i : Int).tmod 15 = (t : Int) := by rw [ht]; rfl
        have f3 : IntKind.i64.wrap (s : Int) = s := wrap64 (by omega) (by omega)
        have hdl := dig_lt (N % 2 ^ i) s
        have htp : 2 ^ t ≤ 2 ^ 14 := Nat.pow_le_pow_right (by decide) (by omega)
        obtain ⟨p, hp⟩ : ∃ p, p = 2 ^ t := ⟨_, rfl⟩
        rw [← hp] at hput htp
        have f4 : IntKind.i64.wrap (2 ^ min t 64) = (p : Nat) := by
          rw [show min t 64 = t by omega, show (2 : Int) ^ t = ((2 ^ t : Nat) : Int) by simp, ← hp]; exact wrap64 (by omega) (by omega)
        obtain ⟨w, hw⟩ : ∃ w, w = dig (N % 2 ^ i) s := ⟨_, rfl⟩
        rw [← hw] at hput hdl
        obtain ⟨v, hv⟩ : ∃ v, v = w + p := ⟨_, rfl⟩
        rw [← hv] at hput
        have f5 : IntKind.i64.wrap ((w : Int) + p) = (v : Nat) := by rw [hv, ← Int.natCast_add]; exact wrap64 (by omega) (by omega)
        simp [f1, f2, f3, f4, ← hw, f5, hput, IntKind.bits]
        repeat (refine ⟨by omega, ?_⟩)
        exact ⟨⟨i + 1, by omega⟩, by simp; omega, cut_w (by simp [w1])⟩
      · have hy2 : y = 0 := by omega
        rw [hy2, Nat.zero_mul, Nat.add_zero] at hmb
        simp
        refine ⟨⟨i + 1, by omega⟩, by simp; omega, cut_w (by simp [w1, hmb])⟩
    · have hMi : N % 2 ^ i = M := by rw [hM, show i = 255 by omega]
      rw [hMi]
      simp [egz]
      refine ⟨by omega, ?_⟩
      exact fin_W (by simp [q17]; omega)
theorem fQBytes_spec (n : Nat) (hn : n < 2 ^ 255) : FSpec Tryz.prog 37 [.agg (q17 n)] [] (.agg ((byL 32 n).map bv)) [] := by
  have hbit := dig_bit n
  rw [← byL_byt]
  refine FSpec.of_W fQBytes_low (by simp) ?_
  simp only [initEnv]
  simp [q17]
  refine W_loop (X := { i : Nat // i ≤ 255 }) (fun i => [(1, .ptr 0 0), (2, .ptr 1 0), (3, .ptr 2 0), (4, .int .i64 i.1)])
    (fun i => [some ⟨arr .i64 17 (dig n), 56, true⟩, some ⟨arr .u8 32 fun _ => 0, 22, true⟩, some ⟨arr .u8 32 (byt (n % 2 ^ i.1)), 22, true⟩]) (fun i => 255 - i.1) ⟨0, by omega⟩ retPost_le ?_ ?_
  · have e0 : arr .u8 32 (byt (n % 1)) = arr .u8 32 fun _ => 0 := arr_ext fun k _ => by simp [byt, Nat.mod_one]
    exact cut_w (by simp [e0])
  · rintro ⟨i, hi⟩
    simp only
    simp
    refine WC_dec (fun h => ?_) (fun h => ?_)
    · obtain ⟨q, hq⟩ : ∃ q, q = i / 15 := ⟨_, rfl⟩
      obtain ⟨r, hr⟩ : ∃ r, r = i % 15 := ⟨_, rfl⟩
      have e1 : (i : Int).tdiv 15 = (q : Int) := by rw [hq]; rfl
      have e2 : (i : Int).tmod 15 = (r : Int) := by rw [hr]; rfl
      have e3 : IntKind.i64.wrap (q : Int) = q := wrap64 (by omega) (by omega)
      have e4 := hbit i
      rw [← hq, ← hr] at e4
      have hdl := dig_lt n q
      have e5 : ((dig n q : Nat) : Int).fdiv (2 ^ min r 64) = ((dig n q / 2 ^ r : Nat) : Int) := by rw [show min r 64 = r by omega]; exact shr_nat _ _
      obtain ⟨y, hy⟩ : ∃ y, y = n / 2 ^ i % 2 := ⟨_, rfl⟩
      have e6 : ((dig n q / 2 ^ r : Nat) : Int).tmod 2 = (y : Nat) := by rw [hy, ← e4]; rfl
      obtain ⟨u, hu⟩ : ∃ u, u = dig n q / 2 ^ r := ⟨_, rfl⟩
      rw [← hu] at e5 e6
      have w1 : IntKind.i64.wrap ((i : Int) + 1) = (i : Int) + 1 := wrap64s (by omega) (by omega)
      have hmb := mod_bit n i
      rw [← hy] at hmb
      simp [e1, e2, e3, e5, e6, IntKind.bits]
      repeat (refine ⟨by omega, ?_⟩)
      refine WC_dec (fun hy1 => ?_) (fun hy1 => ?_)
      · have hy2 : y = 1 := by omega
        rw [hy2, Nat.one_mul] at hmb
        have hput := byt_put (m := n % 2 ^ i) (i := i) (Nat.mod_lt _ (Nat.two_pow_pos _))
        rw [← hmb] at hput
        have hlt : byt (n % 2 ^ i) (i / 8) < 2 ^ (i % 8) := by
          unfold byt
          refine Nat.lt_of_le_of_lt (Nat.mod_le _ _) ?_
          rw [Nat.div_lt_iff_lt_mul (Nat.pow_pos (by decide)), show (256 : Nat) = 2 ^ 8 from rfl, ← Nat.pow_mul, ← Nat.pow_add, show i % 8 + 8 * (i / 8) = i by omega]
          exact Nat.mod_lt _ (Nat.two_pow_pos _)
        obtain ⟨s, hs⟩ : ∃ s, s = i / 8 := ⟨_, rfl⟩
        obtain ⟨t, ht⟩ : ∃ t, t = i % 8 := ⟨_, rfl⟩
        rw [← hs, ← ht] at hput hlt
        have f1 : (i : Int).tdiv 8 = (s : Int) := by rw [hs]; rfl
        have f2 : (i : Int).tmod 8 = (t : Int) := by rw [ht]; rfl
        have f3 : IntKind.i64.wrap (s : Int) = s := wrap64 (by omega) (by omega)
        have htp : 2 ^ t ≤ 2 ^ 7 := Nat.pow_le_pow_right (by decide) (by omega)
        obtain ⟨p, hp⟩ : ∃ p, p = 2 ^ t := ⟨_, rfl⟩
        rw [← hp] at hput htp hlt
        have f4 : IntKind.u8.wrap (2 ^ min t 8) = (p : Nat) := by
          rw [show min t 8 = t by omega, show (2 : Int) ^ t = ((2 ^ t : Nat) : Int) by simp, ← hp, wrapu8, Nat.mod_eq_of_lt (by omega)]
        obtain ⟨w, hw⟩ : ∃ w, w = byt (n % 2 ^ i) s := ⟨_, rfl⟩
        rw [← hw] at hput hlt
        obtain ⟨v, hv⟩ : ∃ v, v = w + p := ⟨_, rfl⟩
        rw [← hv] at hput
        have f5 : IntKind.u8.wrap ((w : Int) + p) = (v : Nat) := by rw [hv, ← Int.natCast_add, wrapu8, Nat.mod_eq_of_lt (by omega)]
        simp [f1, f2, f3, f4, ← hw, f5, hput, IntKind.bits]
        repeat (refine ⟨by omega, ?_⟩)
        exact ⟨⟨i + 1, by omega⟩, by simp; omega, cut_w (by simp [w1])⟩
      · have hy2 : y = 0 := by omega
        rw [hy2, Nat.zero_mul, Nat.add_zero] at hmb
        simp
        refine ⟨⟨i + 1, by omega⟩, by simp; omega, cut_w (by simp [w1, hmb])⟩
    · have hni : n % 2 ^ i = n := by rw [show i = 255 by omega]; exact Nat.mod_eq_of_lt hn
      rw [hni]
      simp
      exact fin_W (by simp)
theorem limb_step (n j i : Nat) (h : j = i / 8) : wd n j / 256 ^ (i + 1 - 8 * j) * 256 + byt n i = wd n j / 256 ^ (i - 8 * j) := by
  have e1 : byt n i = wd n j / 256 ^ (i - 8 * j) % 256 := by
    have := wd_byte n i
    rw [← h, show 8 * (i % 8) = 8 * (i - 8 * j) by omega, Nat.pow_mul] at this
    exact this.symm
  rw [e1, show i + 1 - 8 * j = (i - 8 * j) + 1 by omega, Nat.pow_succ, ← Nat.div_div_eq_div_mul]
  omega
theorem fQLimbs_spec (n : Nat) (hn : n < 2 ^ 255) : FSpec Tryz.prog 70 [.agg (q17 n)] [] (.agg (q4 n)) [] := by
  have hB := fQBytes_spec n hn
  rw [← byL_byt] at hB
  rw [q4_arr]
  refine FSpec.of_W fQLimbs_low (by simp) ?_
  simp only [initEnv]
  simp
  refine WO_callP [] rfl rfl hB (by simp) (by simp) ?_
  simp
  have hz : ∀ j, j < 4 → wd n j / 256 ^ (32 - 8 * j) = 0 := fun j hj => by
    refine Nat.div_eq_of_lt (Nat.lt_of_lt_of_le (wd_lt n j) ?_)
    rw [show (256 : Nat) = 2 ^ 8 from rfl, ← Nat.pow_mul]
    exact Nat.pow_le_pow_right (by decide) (by omega)
  have z4 : [AV.int .u64 0, .int .u64 0, .int .u64 0, .int .u64 0] = arr .u64 4 fun _ => 0 := rfl
  rw [z4]
  refine W_loop (X := { i : Nat // i ≤ 32 }) (fun i => [(2, .ptr 1 0), (3, .ptr 2 0), (4, .ptr 3 0), (5, .int .i64 ((i.1 : Int) - 1))])
    (fun i => [some ⟨q17 n, 56, true⟩, some ⟨arr .u64 4 fun _ => 0, 51, true⟩, some ⟨arr .u64 4 (fun j => wd n j / 256 ^ (i.1 - 8 * j)), 51, true⟩, some ⟨arr .u8 32 (byt n), 22, true⟩]) (fun i => i.1) ⟨32, by omega⟩ retPost_le ?_ ?_
  · have e0 : arr .u64 4 (fun j => wd n j / 256 ^ (32 - 8 * j)) = arr .u64 4 fun _ => 0 := arr_ext fun j hj => hz j hj
    exact cut_w (by simp [e0])
  · rintro ⟨i, hi⟩
    obtain _ | k := i
    · have e1 : arr .u64 4 (fun j => wd n j / 256 ^ (0 - 8 * j)) = arr .u64 4 (wd n) := arr_ext fun j hj => by rw [Nat.zero_sub, Nat.pow_zero, Nat.div_one]
      simp [e1]
      exact fin_W (by simp [e1])
    · obtain ⟨j, hj⟩ : ∃ j, j = k / 8 := ⟨_, rfl⟩
      have e1 : (k : Int).tdiv 8 = (j : Int) := by rw [hj]; rfl
      have e2 : IntKind.i64.wrap (j : Int) = j := wrap64 (by omega) (by omega)
      have e3 := limb_step n j k hj
      have hwl := wd_lt n j
      obtain ⟨a, ha⟩ : ∃ a, a = wd n j / 256 ^ (k + 1 - 8 * j) := ⟨_, rfl⟩
      obtain ⟨b, hb⟩ : ∃ b, b = byt n k := ⟨_, rfl⟩
      obtain ⟨c, hc⟩ : ∃ c, c = wd n j / 256 ^ (k - 8 * j) := ⟨_, rfl⟩
      rw [← ha, ← hb, ← hc] at e3
      have hcl : c < 2 ^ 64 := by rw [hc]; exact Nat.lt_of_le_of_lt (Nat.div_le_self _ _) hwl
      have e4 : IntKind.u64.wrap ((a : Int) * 256) = ((a * 256 : Nat) : Int) := by rw [show (a : Int) * 256 = ((a * 256 : Nat) : Int) by omega, wrapu64, Nat.mod_eq_of_lt (by omega)]
      have e5 : IntKind.u64.wrap (b : Int) = b := by rw [wrapu64, Nat.mod_eq_of_lt (by omega)]
      have e6 : IntKind.u64.wrap (((a * 256 : Nat) : Int) + b) = (c : Nat) := by rw [← Int.natCast_add, e3, wrapu64, Nat.mod_eq_of_lt hcl]
      have e7 : upd (fun j => wd n j / 256 ^ (k + 1 - 8 * j)) j c = fun j => wd n j / 256 ^ (k - 8 * j) := by
        funext m
        unfold upd
        split
        · rename_i q; rw [q]; exact hc
        · rename_i q
          show wd n m / 256 ^ (k + 1 - 8 * m) = wd n m / 256 ^ (k - 8 * m)
          by_cases hm : m < j
          · have l1 : wd n m / 256 ^ (k + 1 - 8 * m) = 0 := by
              refine Nat.div_eq_of_lt (Nat.lt_of_lt_of_le (wd_lt n m) ?_)
              rw [show (256 : Nat) = 2 ^ 8 from rfl, ← Nat.pow_mul]
              exact Nat.pow_le_pow_right (by decide) (by omega)
            have l2 : wd n m / 256 ^ (k - 8 * m) = 0 := by
              refine Nat.div_eq_of_lt (Nat.lt_of_lt_of_le (wd_lt n m) ?_)
              rw [show (256 : Nat) = 2 ^ 8 from rfl, ← Nat.pow_mul]
              exact Nat.pow_le_pow_right (by decide) (by omega)
            rw [l1, l2]
          · rw [show k + 1 - 8 * m = 0 by omega, show k - 8 * m = 0 by omega]
      simp only [Int.natCast_mul, Int.cast_ofNat_Int] at e4 e6
      have w1 : IntKind.i64.wrap ((k : Int) - 1) = (k : Int) - 1 := wrap64s (by omega) (by omega)
      simp [e1, e2, ← ha, ← hb, e4, e5, e6, e7]
      repeat (refine ⟨by omega, ?_⟩)
      exact ⟨⟨k, by omega⟩, by simp, cut_w (by simp [w1])⟩
end Go.Proofs.YthgibibeoapfbaaGreat
namespace Go.Proofs.YthgibibeoapfbaaGreat
open Go Go.Fw
attribute [local irreducible] W WX WR WO WS WSr WH WHA WG WC FSpec
attribute [local simp] WS_at_map WSr_at_map WS_at_q4 WSr_at_q4 WS_at_arr WSr_at_arr loadWP splice_full Int.natCast_inj arr_zero32 z17 z34 fill_zero arr_set arr_take upd_fill
theorem fQPower_spec (a e : Nat) (ha : a < p25) (he : e < 2 ^ 256) : FSpec Tryz.prog 69 [.agg (q17 a), .agg (q4 e)] [] (.agg (q17 (a ^ e % p25))) [] := by
  have hp := p25_lt
  have hT := fQMul_spec
  have hS := fQSmall_spec 1 (by decide)
  have hpos := p25_pos
  have h1 : 1 % p25 = 1 := by decide
  generalize p25 = p at *
  rw [h1] at hS
  refine FSpec.of_W fQPower_low (by simp) ?_
  simp only [initEnv]
  simp
  refine WO_callP [] rfl rfl hS (by simp) (by simp) ?_
  simp
  refine W_loop (X := { k : Nat // k ≤ 256 }) (fun i => [(2, .ptr 0 0), (3, .ptr 1 0), (4, .ptr 2 0), (5, .ptr 3 0), (6, .int .i64 ((i.1 : Int) - 1))]) (fun i => [some ⟨q17 a, 56, true⟩, some ⟨q4 e, 51, true⟩, some ⟨q17 0, 56, true⟩, some ⟨q17 (a ^ (e / 2 ^ i.1) % p), 56, true⟩]) (fun i => i.1) ⟨256, by omega⟩ retPost_le ?_ ?_
  · have e0 : e / 2 ^ 256 = 0 := Nat.div_eq_of_lt he
    exact cut_w (by simp [e0, q17_zero, h1])
  · rintro ⟨i, hi⟩
    obtain _ | k := i
    · simp
      exact fin_W (by simp)
    · simp
      have hm := Nat.mod_lt (a ^ (e / 2 ^ (k + 1))) hpos
      obtain ⟨v, hv⟩ : ∃ v, v = a ^ (e / 2 ^ (k + 1)) % p := ⟨_, rfl⟩
      rw [← hv] at hm ⊢
      have hT1 := hT v v (by omega) (by omega)
      have hT2 := hT (v * v % p) a (by have := Nat.mod_lt (v * v) hpos; omega) (by omega)
      refine WO_callP [] rfl rfl hT1 (by simp) (by simp) ?_
      obtain ⟨q, hq⟩ : ∃ q, q = k / 64 := ⟨_, rfl⟩
      obtain ⟨r, hr⟩ : ∃ r, r = k % 64 := ⟨_, rfl⟩
      have e1 : (k : Int).tdiv 64 = (q : Int) := by rw [hq]; rfl
      have e2 : (k : Int).tmod 64 = (r : Int) := by rw [hr]; rfl
      have e5 : ((wd e q : Nat) : Int).fdiv (2 ^ min r 64) = ((wd e q / 2 ^ r : Nat) : Int) := by rw [show min r 64 = r by omega]; exact shr_nat _ _
      have e6 : (q : Int) < 4 := by omega
      have e7 : q < 4 := by omega
      have e3 := wd_bit' e k
      rw [← hq, ← hr] at e3
      generalize wd e q / 2 ^ r = z at *
      have e8 : (z : Int).tmod 2 = ((e / 2 ^ k % 2 : Nat) : Int) := by rw [← e3]; rfl
      obtain ⟨y, hy⟩ : ∃ y, y = e / 2 ^ k % 2 := ⟨_, rfl⟩
      rw [← hy] at e8
      have hb : e / 2 ^ k = 2 * (e / 2 ^ (k + 1)) + y := by rw [hy, Nat.pow_succ, ← Nat.div_div_eq_div_mul]; omega
      have hy2 : y < 2 := by rw [hy]; exact Nat.mod_lt _ (by decide)
      have hv2 : v * v % p = a ^ (2 * (e / 2 ^ (k + 1))) % p := by rw [hv, ← Nat.mul_mod, ← Nat.pow_add, Nat.two_mul]
      simp [e1, e2, e6, e7, e5, e8, IntKind.bits, wrap64s (n := (q : Int)) (by omega) (by omega)]
      refine WC_dec (fun h => ?_) (fun h => ?_)
      · have h' : y = 1 := by omega
        simp
        refine WO_callP [] rfl rfl hT2 (by simp) (by simp) ?_
        have hn : v * v % p * a % p = a ^ (e / 2 ^ k) % p := by
          rw [hv2, Nat.mod_mul_mod, hb, h']
          rfl
        rw [hn]
        simp
        refine ⟨⟨k, by omega⟩, by simp, ?_⟩
        exact cut_w (by simp [wrap64s (n := (k : Int) - 1) (by omega) (by omega)])
      · have h' : y = 0 := by omega
        have hn : v * v % p = a ^ (e / 2 ^ k) % p := by rw [hv2, hb, h']; rfl
        rw [hn]
        simp
        refine ⟨⟨k, by omega⟩, by simp, ?_⟩
        exact cut_w (by simp [wrap64s (n := (k : Int) - 1) (by omega) (by omega)])
theorem fQInvert_spec (a : Nat) (ha : a < p25) : FSpec Tryz.prog 35 [.agg (q17 a)] [] (.agg (q17 (invP a))) [] := by
  have hP := fQP_spec
  have h2 := fQSmall_spec 2 (by decide)
  have hU := fQUnder_spec p25 (2 % p25) p25_lt (by decide)
  have hL := fQLimbs_spec (p25 - 2 % p25) (by decide)
  have hW := fQPower_spec a (p25 - 2 % p25) ha (by decide)
  have e : a ^ (p25 - 2 % p25) % p25 = invP a := by rw [Nat.mod_eq_of_lt (show 2 < p25 by decide)]; rfl
  rw [e] at hW
  clear e
  generalize invP a = r at *
  generalize 2 % p25 = t at *
  generalize p25 - t = u at *
  generalize p25 = p at *
  refine FSpec.of_W fQInvert_low (by simp) ?_
  simp only [initEnv]
  simp
  refine WO_callP [] rfl rfl hP (by simp) (by simp) ?_
  simp
  refine WO_callP [] rfl rfl h2 (by simp) (by simp) ?_
  simp
  refine WO_callP [] rfl rfl hU (by simp) (by simp) ?_
  simp
  refine WO_callP [] rfl rfl hL (by simp) (by simp) ?_
  simp
  refine WO_callP [] rfl rfl hW (by simp) (by simp) ?_
  simp
  exact fin_W (by simp)
end Go.Proofs.YthgibibeoapfbaaGreat
namespace Go.Proofs.YthgibibeoapfbaaGreat
open Go.Fw
set_option maxRecDepth 100000
set_option maxHeartbeats 4000000
@[reducible] def fBit : KCode := by
  refine (?f : lowF Tryz.progTables Tryz.f96 [] [] = ?c → annF false [] [] ?c = ?k → KCode) ?h ?i
  case h => cbv; exact rfl
  case i => cbv; exact rfl
  exact fun _ _ => ?k
theorem fBit_low : lowFunc Tryz.prog 96 [] [] = some ⟨fBit.bare, [.tmp 4], 22⟩ := by kernel_rfl
@[reducible] def fCvD : KCode := by
  refine (?f : lowF Tryz.progTables Tryz.f83 [] [] = ?c → annF false [] [] ?c = ?k → KCode) ?h ?i
  case h => cbv; exact rfl
  case i => cbv; exact rfl
  exact fun _ _ => ?k
theorem fCvD_low : lowFunc Tryz.prog 83 [] [] = some ⟨fCvD.bare, [.cell 0 (some 4)], 2⟩ := by kernel_rfl
@[reducible] def fCvAt : KCode := by
  refine (?f : lowF Tryz.progTables Tryz.f87 [] [(1, [0, 1, 2, 3, 5, 6, 7, 8, 9, 4, 10, 11, 12])] = ?c → annF false [] [] ?c = ?k → KCode) ?h ?i
  case h => cbv; exact rfl
  case i => cbv; exact rfl
  exact fun _ _ => ?k
theorem fCvAt_low : lowFunc Tryz.prog 87 [] [(1, [0, 1, 2, 3, 5, 6, 7, 8, 9, 4, 10, 11, 12])] = some ⟨fCvAt.bare, [.cell 2 (some 16)], 15⟩ := by kernel_rfl
@[reducible] def fCvNone : KCode := by
  refine (?f : lowF Tryz.progTables Tryz.f94 [] [] = ?c → annF false [] [] ?c = ?k → KCode) ?h ?i
  case h => cbv; exact rfl
  case i => cbv; exact rfl
  exact fun _ _ => ?k
theorem fCvNone_low : lowFunc Tryz.prog 94 [] [] = some ⟨fCvNone.bare, [.cell 0 (some 16)], 4⟩ := by kernel_rfl
@[reducible] def fCvBase : KCode := by
  refine (?f : lowF Tryz.progTables Tryz.f54 [] [] = ?c → annF false [] [] ?c = ?k → KCode) ?h ?i
  case h => cbv; exact rfl
  case i => cbv; exact rfl
  exact fun _ _ => ?k
theorem fCvBase_low : lowFunc Tryz.prog 54 [] [] = some ⟨fCvBase.bare, [.cell 0 (some 16)], 18⟩ := by kernel_rfl
@[reducible] def fCvDecode : KCode := by
  refine (?f : lowF Tryz.progTables Tryz.f50 [(6, 0), (6, 4), (8, 1), (8, 4), (8, 6), (9, 2), (9, 4), (9, 5)] [(1000006, [3, 5, 6])] = ?c → annF false [] [] ?c = ?k → KCode) ?h ?i
  case h => cbv; exact rfl
  case i => cbv; exact rfl
  exact fun _ _ => ?k
theorem fCvDecode_low : lowFunc Tryz.prog 50 [(6, 0), (6, 4), (8, 1), (8, 4), (8, 6), (9, 2), (9, 4), (9, 5)] [(1000006, [3, 5, 6])] = some ⟨fCvDecode.bare, [.cell 2 (some 16), .tmp 3], 71⟩ := by kernel_rfl
@[reducible] def fCvSum : KCode := by
  refine (?f : lowF Tryz.progTables Tryz.f95 [(1, 4), (1, 9), (1, 11), (2, 5), (2, 11), (2, 13), (3, 4), (3, 5), (3, 7), (4, 4), (4, 6), (5, 2), (5, 5), (5, 9), (5, 13)] [(1000005, [7, 14, 15, 16, 17]), (6, [0, 1, 2, 4, 5, 6, 8, 9, 10, 12, 13, 14, 3, 7, 11, 15, 16, 17])] = ?c → annF false [] [] ?c = ?k → KCode) ?h ?i
  case h => cbv; exact rfl
  case i => cbv; exact rfl
  exact fun _ _ => ?k
theorem fCvSum_low : lowFunc Tryz.prog 95 [(1, 4), (1, 9), (1, 11), (2, 5), (2, 11), (2, 13), (3, 4), (3, 5), (3, 7), (4, 4), (4, 6), (5, 2), (5, 5), (5, 9), (5, 13)] [(1000005, [7, 14, 15, 16, 17]), (6, [0, 1, 2, 4, 5, 6, 8, 9, 10, 12, 13, 14, 3, 7, 11, 15, 16, 17])] = some ⟨fCvSum.bare, [.cell 4 (some 16)], 85⟩ := by kernel_rfl
@[reducible] def fCvWhole : KCode := by
  refine (?f : lowF Tryz.progTables Tryz.f93 [] [] = ?c → annF false [] [] ?c = ?k → KCode) ?h ?i
  case h => cbv; exact rfl
  case i => cbv; exact rfl
  exact fun _ _ => ?k
theorem fCvWhole_low : lowFunc Tryz.prog 93 [] [] = some ⟨fCvWhole.bare, [.cell 2 (some 16)], 8⟩ := by kernel_rfl
@[reducible] def fCvAdd : KCode := by
  refine (?f : lowF Tryz.progTables Tryz.f56 [] [] = ?c → annF false [] [] ?c = ?k → KCode) ?h ?i
  case h => cbv; exact rfl
  case i => cbv; exact rfl
  exact fun _ _ => ?k
theorem fCvAdd_low : lowFunc Tryz.prog 56 [] [] = some ⟨fCvAdd.bare, [.cell 2 (some 16)], 19⟩ := by kernel_rfl
@[reducible] def fCvTimes : KCode := by
  refine (?f : lowF Tryz.progTables Tryz.f55 [] [] = ?c → annF false [] [] ?c = ?k → KCode) ?h ?i
  case h => cbv; exact rfl
  case i => cbv; exact rfl
  exact fun _ _ => ?k
theorem fCvTimes_low : lowFunc Tryz.prog 55 [] [] = some ⟨fCvTimes.bare, [.cell 4 (some 16)], 24⟩ := by kernel_rfl
@[reducible] def fCvSame : KCode := by
  refine (?f : lowF Tryz.progTables Tryz.f53 [] [(1, [0, 2, 1, 3, 4, 5]), (2, [0, 1, 2, 3, 4, 6, 7, 8, 9, 10, 5, 11, 12, 13, 14, 15, 16, 17, 18, 20, 21, 22, 23, 24, 19, 25, 26, 27, 28])] = ?c → annF false [] [] ?c = ?k → KCode) ?h ?i
  case h => cbv; exact rfl
  case i => cbv; exact rfl
  exact fun _ _ => ?k
theorem fCvSame_low : lowFunc Tryz.prog 53 [] [(1, [0, 2, 1, 3, 4, 5]), (2, [0, 1, 2, 3, 4, 6, 7, 8, 9, 10, 5, 11, 12, 13, 14, 15, 16, 17, 18, 20, 21, 22, 23, 24, 19, 25, 26, 27, 28])] = some ⟨fCvSame.bare, [.tmp 4], 37⟩ := by kernel_rfl
@[reducible] def fRCvD : KCode := by
  refine (?f : lowF Tryz.progTables Tryz.f18 [] [] = ?c → annF false [] [] ?c = ?k → KCode) ?h ?i
  case h => cbv; exact rfl
  case i => cbv; exact rfl
  exact fun _ _ => ?k
theorem fRCvD_low : lowFunc Tryz.prog 18 [] [] = some ⟨fRCvD.bare, [.cell 0 (some 17)], 14⟩ := by kernel_rfl
@[reducible] def fRCvNone : KCode := by
  refine (?f : lowF Tryz.progTables Tryz.f38 [] [] = ?c → annF false [] [] ?c = ?k → KCode) ?h ?i
  case h => cbv; exact rfl
  case i => cbv; exact rfl
  exact fun _ _ => ?k
theorem fRCvNone_low : lowFunc Tryz.prog 38 [] [] = some ⟨fRCvNone.bare, [.cell 0 (some 51)], 5⟩ := by kernel_rfl
@[reducible] def fRCvAdd : KCode := by
  refine (?f : lowF Tryz.progTables Tryz.f39 [(5, 3), (5, 4), (8, 4), (8, 9), (8, 10), (8, 12), (8, 14)] [(9, [0, 1, 3, 5, 6, 8, 9, 12, 13, 2, 4, 7, 10, 11, 14, 15, 16])] = ?c → annF false [] [] ?c = ?k → KCode) ?h ?i
  case h => cbv; exact rfl
  case i => cbv; exact rfl
  exact fun _ _ => ?k
theorem fRCvAdd_low : lowFunc Tryz.prog 39 [(5, 3), (5, 4), (8, 4), (8, 9), (8, 10), (8, 12), (8, 14)] [(9, [0, 1, 3, 5, 6, 8, 9, 12, 13, 2, 4, 7, 10, 11, 14, 15, 16])] = some ⟨fRCvAdd.bare, [.cell 6 (some 51)], 75⟩ := by kernel_rfl
@[reducible] def fRCvTimes : KCode := by
  refine (?f : lowF Tryz.progTables Tryz.f16 [] [] = ?c → annF false [] [] ?c = ?k → KCode) ?h ?i
  case h => cbv; exact rfl
  case i => cbv; exact rfl
  exact fun _ _ => ?k
theorem fRCvTimes_low : lowFunc Tryz.prog 16 [] [] = some ⟨fRCvTimes.bare, [.cell 6 (some 51)], 32⟩ := by kernel_rfl
@[reducible] def fRCvSame : KCode := by
  refine (?f : lowF Tryz.progTables Tryz.f62 [] [(1, [0, 1, 2, 3, 5, 6, 7, 8, 4, 9, 10, 11, 12, 13, 14, 15, 17, 18, 19, 20, 16, 21, 22, 23, 24])] = ?c → annF false [] [] ?c = ?k → KCode) ?h ?i
  case h => cbv; exact rfl
  case i => cbv; exact rfl
  exact fun _ _ => ?k
theorem fRCvSame_low : lowFunc Tryz.prog 62 [] [(1, [0, 1, 2, 3, 5, 6, 7, 8, 4, 9, 10, 11, 12, 13, 14, 15, 17, 18, 19, 20, 16, 21, 22, 23, 24])] = some ⟨fRCvSame.bare, [.tmp 4], 29⟩ := by kernel_rfl
@[reducible] def fRCvRoot : KCode := by
  refine (?f : lowF Tryz.progTables Tryz.f77 [] [(2, [0, 1, 3, 2, 4])] = ?c → annF false [] [] ?c = ?k → KCode) ?h ?i
  case h => cbv; exact rfl
  case i => cbv; exact rfl
  exact fun _ _ => ?k
theorem fRCvRoot_low : lowFunc Tryz.prog 77 [] [(2, [0, 1, 3, 2, 4])] = some ⟨fRCvRoot.bare, [.cell 2 (some 17)], 20⟩ := by kernel_rfl
@[reducible] def fRCvDecode : KCode := by
  refine (?f : lowF Tryz.progTables Tryz.f40 [(6, 2), (6, 4), (6, 6), (6, 7), (6, 8), (6, 9)] [(8, [0, 1, 3, 2, 4, 5, 6, 7, 8, 9, 10, 11, 12])] = ?c → annF false [] [] ?c = ?k → KCode) ?h ?i
  case h => cbv; exact rfl
  case i => cbv; exact rfl
  exact fun _ _ => ?k
theorem fRCvDecode_low : lowFunc Tryz.prog 40 [(6, 2), (6, 4), (6, 6), (6, 7), (6, 8), (6, 9)] [(8, [0, 1, 3, 2, 4, 5, 6, 7, 8, 9, 10, 11, 12])] = some ⟨fRCvDecode.bare, [.cell 2 (some 51), .tmp 3], 62⟩ := by kernel_rfl
@[reducible] def fRCvEncode : KCode := by
  refine (?f : lowF Tryz.progTables Tryz.f15 [] [] = ?c → annF false [] [] ?c = ?k → KCode) ?h ?i
  case h => cbv; exact rfl
  case i => cbv; exact rfl
  exact fun _ _ => ?k
theorem fRCvEncode_low : lowFunc Tryz.prog 15 [] [] = some ⟨fRCvEncode.bare, [.cell 2 (some 32)], 27⟩ := by kernel_rfl
@[reducible] def fRCvBase : KCode := by
  refine (?f : lowF Tryz.progTables Tryz.f17 [] [] = ?c → annF false [] [] ?c = ?k → KCode) ?h ?i
  case h => cbv; exact rfl
  case i => cbv; exact rfl
  exact fun _ _ => ?k
theorem fRCvBase_low : lowFunc Tryz.prog 17 [] [] = some ⟨fRCvBase.bare, [.cell 0 (some 51)], 18⟩ := by kernel_rfl
end Go.Proofs.YthgibibeoapfbaaGreat
namespace Go.Proofs.YthgibibeoapfbaaGreat
open Go Go.Fw
attribute [local irreducible] W WX WR WO WS WSr WH WHA WG WC FSpec
attribute [local simp] WS_at_map WSr_at_map loadWP splice_full Int.natCast_inj
theorem fv_255 (x : Fp) : fv x < 2 ^ 255 := Nat.lt_of_lt_of_le (fv_lt x) (by decide)
theorem fMul2 (x y : Fp) (md : Md) : FSpec Tryz.prog 80 [.list 4 md (q4 (fv x) ++ q4 (fv y))] [] (.agg (q4 (fv (x * y)))) [] := by
  have h := fFdMul_spec [fv x, fv y] md (by intro z hz; simp at hz; rcases hz with rfl | rfl <;> exact fv_255 _) (by simp)
  rw [show mulP [fv x, fv y] = fv (x * y) by rw [fv_mul]; show (1 * fv x % p25) * fv y % p25 = _; rw [Nat.one_mul, Nat.mod_eq_of_lt (fv_lt x)]] at h
  exact h
theorem fMul3 (x y z : Fp) (md : Md) : FSpec Tryz.prog 80 [.list 4 md (q4 (fv x) ++ (q4 (fv y) ++ q4 (fv z)))] [] (.agg (q4 (fv (x * y * z)))) [] := by
  have h := fFdMul_spec [fv x, fv y, fv z] md (by intro w hz; simp at hz; rcases hz with rfl | rfl | rfl <;> exact fv_255 _) (by simp)
  rw [show mulP [fv x, fv y, fv z] = fv (x * y * z) by rw [fv_mul, fv_mul]; show (1 * fv x % p25) * fv y % p25 * fv z % p25 = _; rw [Nat.one_mul, Nat.mod_eq_of_lt (fv_lt x)]] at h
  exact h
theorem fMul4 (x y z w : Fp) (md : Md) : FSpec Tryz.prog 80 [.list 4 md (q4 (fv x) ++ (q4 (fv y) ++ (q4 (fv z) ++ q4 (fv w))))] [] (.agg (q4 (fv (x * y * z * w)))) [] := by
  have h := fFdMul_spec [fv x, fv y, fv z, fv w] md (by intro w hz; simp at hz; rcases hz with rfl | rfl | rfl | rfl <;> exact fv_255 _) (by simp)
  rw [show mulP [fv x, fv y, fv z, fv w] = fv (x * y * z * w) by rw [fv_mul, fv_mul, fv_mul]; show (1 * fv x % p25) * fv y % p25 * fv z % p25 * fv w % p25 = _; rw [Nat.one_mul, Nat.mod_eq_of_lt (fv_lt x)]] at h
  exact h
theorem fAdd2 (x y : Fp) (md : Md) : FSpec Tryz.prog 82 [.list 4 md (q4 (fv x) ++ q4 (fv y))] [] (.agg (q4 (fv (x + y)))) [] := by
  have h := fFdAdd_spec [fv x, fv y] md (by intro z hz; simp at hz; rcases hz with rfl | rfl <;> exact fv_255 _) (by simp)
  rw [show [fv x, fv y].sum % p25 = fv (x + y) by rw [fv_add]; show (fv x + (fv y + 0)) % p25 = _; rfl] at h
  exact h
theorem fSub2 (x y : Fp) : FSpec Tryz.prog 81 [.agg (q4 (fv x)), .agg (q4 (fv y))] [] (.agg (q4 (fv (x - y)))) [] := by
  have h := fFdSub_spec (fv x) (fv y) (fv_lt x) (fv_lt y)
  rw [show subP (fv x) (fv y) = fv (x - y) from (fv_sub x y).symm] at h
  exact h
theorem fNeg1 (x : Fp) : FSpec Tryz.prog 86 [.agg (q4 (fv x))] [] (.agg (q4 (fv (-x)))) [] := by
  rw [fv_neg]; exact fFdNeg_spec (fv x) (fv_lt x)
theorem fInv1 (x : Fp) : FSpec Tryz.prog 84 [.agg (q4 (fv x))] [] (.agg (q4 (fv (invF x)))) [] := by
  rw [fv_invF]; exact fFdInvert_spec (fv x) (fv_lt x)
theorem fv_two : fv (2 : Fp) = 2 := by
  show 2 % p25 = 2
  exact Nat.mod_eq_of_lt (by decide)
theorem fSmall1 : FSpec Tryz.prog 79 [.int .u64 1] [] (.agg (q4 (fv 1))) [] := by
  rw [fv_one]; exact fFdSmall_spec 1 (by decide)
theorem fSmall2 : FSpec Tryz.prog 79 [.int .u64 2] [] (.agg (q4 (fv 2))) [] := by
  rw [fv_two]; exact fFdSmall_spec 2 (by decide)
theorem fCvD_spec : FSpec Tryz.prog 83 [] [] (.agg (q4 (fv (toF dP)))) [] := by
  rw [toF_lt dP_lt]
  refine FSpec.of_W fCvD_low (by simp) ?_
  simp only [initEnv]
  simp
  exact fin_W (by simp [q4, show wd dP 0 = 8496970652267935907 by decide +kernel, show wd dP 1 = 31536524315187371 by decide +kernel, show wd dP 2 = 10144147576115030168 by decide +kernel, show wd dP 3 = 5909686906226998899 by decide +kernel])
def ptC (p : Cv.EP Fp) : List AV := q4 (fv p.x) ++ (q4 (fv p.y) ++ (q4 (fv p.z) ++ q4 (fv p.t)))
set_option maxRecDepth 100000 in
set_option maxHeartbeats 2000000 in
theorem fCvSum_spec (p q : Cv.EP Fp) : FSpec Tryz.prog 95 [.agg (ptC p), .agg (ptC q)] [] (.agg (ptC (Cv.sumE (toF dP) p q))) [] := by
  obtain ⟨x1, y1, z1, t1⟩ := p
  obtain ⟨x2, y2, z2, t2⟩ := q
  simp only [ptC, Cv.sumE]
  have hD := fCvD_spec
  generalize toF dP = d at *
  refine FSpec.of_W fCvSum_low (by simp) ?_
  simp only [initEnv]
  simp [q4]
  refine WO_callQ rfl (fSub2 y1 x1) (by simp [q4]) ?_
  simp [q4]
  refine WO_callQ rfl (fSub2 y2 x2) (by simp [q4]) ?_
  simp [q4]
  refine WO_callQ rfl (fMul2 (y1 - x1) (y2 - x2) ⟨false, true, false⟩) (by simp [q4]) ?_
  generalize (y1 - x1) * (y2 - x2) = a
  simp [q4]
  refine WO_callQ rfl (fAdd2 y1 x1 ⟨false, true, false⟩) (by simp [q4]) ?_
  simp [q4]
  refine WO_callQ rfl (fAdd2 y2 x2 ⟨false, true, false⟩) (by simp [q4]) ?_
  simp [q4]
  refine WO_callQ rfl (fMul2 (y1 + x1) (y2 + x2) ⟨false, true, false⟩) (by simp [q4]) ?_
  generalize (y1 + x1) * (y2 + x2) = b
  simp [q4]
  refine WO_callQ rfl (hD) (by simp [q4]) ?_
  simp [q4]
  refine WO_callQ rfl (fSmall2) (by simp [q4]) ?_
  simp [q4]
  refine WO_callQ rfl (fMul4 t1 t2 d 2 ⟨false, true, false⟩) (by simp [q4]) ?_
  generalize t1 * t2 * d * 2 = c
  simp [q4]
  refine WO_callQ rfl (fSmall2) (by simp [q4]) ?_
  simp [q4]
  refine WO_callQ rfl (fMul3 z1 z2 2 ⟨false, true, false⟩) (by simp [q4]) ?_
  generalize z1 * z2 * 2 = z
  simp [q4]
  refine WO_callQ rfl (fSub2 b a) (by simp [q4]) ?_
  simp [q4]
  refine WO_callQ rfl (fSub2 z c) (by simp [q4]) ?_
  simp [q4]
  refine WO_callQ rfl (fAdd2 z c ⟨false, true, false⟩) (by simp [q4]) ?_
  simp [q4]
  refine WO_callQ rfl (fAdd2 b a ⟨false, true, false⟩) (by simp [q4]) ?_
  simp [q4]
  refine WO_callP [] rfl rfl (fMul2 (b - a) (z - c) ⟨false, true, false⟩) (by simp [q4]) (by simp [q4]) ?_
  simp [q4]
  refine WO_callP [] rfl rfl (fMul2 (z + c) (b + a) ⟨false, true, false⟩) (by simp [q4]) (by simp [q4]) ?_
  simp [q4]
  refine WO_callP [] rfl rfl (fMul2 (z - c) (z + c) ⟨false, true, false⟩) (by simp [q4]) (by simp [q4]) ?_
  simp [q4]
  refine WO_callP [] rfl rfl (fMul2 (b - a) (b + a) ⟨false, true, false⟩) (by simp [q4]) (by simp [q4]) ?_
  simp [q4]
  exact fin_W (by simp [q4])
end Go.Proofs.YthgibibeoapfbaaGreat
namespace Go.Proofs.YthgibibeoapfbaaGreat
open Go Go.Fw
attribute [local irreducible] W WX WR WO WS WSr WH WHA WG WC FSpec
attribute [local simp] WS_at_q4 WSr_at_q4 WS_at_mx mx_set' loadWP splice_full Int.natCast_inj
theorem bit_step (b k : Nat) : b / 2 ^ k = 2 * (b / 2 ^ (k + 1)) + b / 2 ^ k % 2 := by
  rw [Nat.pow_succ, ← Nat.div_div_eq_div_mul]; omega
theorem mul_step (M a b k : Nat) : (a * (b / 2 ^ (k + 1)) % M + a * (b / 2 ^ (k + 1)) % M) % M = 2 * a * (b / 2 ^ (k + 1)) % M := by
  rw [← Nat.two_mul, Nat.mul_mod, Nat.mod_mod, ← Nat.mul_mod, Nat.mul_assoc]
theorem mul_bit0 (M a b k : Nat) (h : ¬ b / 2 ^ k % 2 = 1) : 2 * a * (b / 2 ^ (k + 1)) % M = a * (b / 2 ^ k) % M := by
  have e : b / 2 ^ k = 2 * (b / 2 ^ (k + 1)) := by have := bit_step b k; omega
  rw [e, Nat.mul_left_comm, Nat.mul_assoc]
theorem mul_bit1 (M a b k : Nat) (h : b / 2 ^ k % 2 = 1) : (2 * a * (b / 2 ^ (k + 1)) % M + a) % M = a * (b / 2 ^ k) % M := by
  rw [Nat.mod_add_mod, bit_step b k, h, Nat.mul_add, Nat.mul_one, ← Nat.mul_assoc, Nat.mul_comm a 2]
theorem fBit_spec (a : Nat) (i : Int) : FSpec Tryz.prog 96 [.agg (q4 a), .int .i64 i] [] (.bool (decide (0 ≤ i ∧ i < 256 ∧ a / 2 ^ i.toNat % 2 = 1))) [] := by
  refine FSpec.of_W fBit_low (by simp) ?_
  simp only [initEnv]
  simp
  by_cases h0 : 0 ≤ i
  · by_cases h1 : i < 256
    · obtain ⟨k, rfl⟩ := Int.eq_ofNat_of_zero_le h0
      have h6 : k < 256 := by omega
      obtain ⟨q, hq⟩ : ∃ q, q = k / 64 := ⟨_, rfl⟩
      obtain ⟨r, hr⟩ : ∃ r, r = k % 64 := ⟨_, rfl⟩
      have e1 : (k : Int).tdiv 64 = (q : Int) := by rw [hq]; rfl
      have e2 : (k : Int).tmod 64 = (r : Int) := by rw [hr]; rfl
      have e4 := and1_u64 (a := wd a q / 2 ^ r) (Nat.lt_of_le_of_lt (Nat.div_le_self _ _) (wd_lt _ _))
      have e5 : ((wd a q : Nat) : Int).fdiv (2 ^ min r 64) = ((wd a q / 2 ^ r : Nat) : Int) := by rw [show min r 64 = r by omega]; exact shr_nat _ _
      have e6 : (q : Int) < 4 := by omega
      have e7 : q < 4 := by omega
      have e3 := wd_bit' a k
      rw [← hq, ← hr] at e3
      generalize wd a q / 2 ^ r = z at *
      simp [h1, e1, e2, e6, e7, e5, e4, IntKind.bits, wrap64s (n := (q : Int)) (by omega) (by omega)]
      refine fin_W ?_
      simp [h1, ← e3]
      omega
    · simp [h0, h1]
      exact fin_W (by simp)
  · simp [h0]
    exact fin_W (by simp)
end Go.Proofs.YthgibibeoapfbaaGreat
namespace Go.Proofs.YthgibibeoapfbaaGreat
open Go Go.Fw
attribute [local irreducible] W WX WR WO WS WSr WH WHA WG WC FSpec
attribute [local simp] WS_at_map WSr_at_map loadWP splice_full Int.natCast_inj
theorem wdq (x y : Fp) : (wd (fv x) 0 = wd (fv y) 0 ∧ wd (fv x) 1 = wd (fv y) 1 ∧ wd (fv x) 2 = wd (fv y) 2 ∧ wd (fv x) 3 = wd (fv y) 3) = (x = y) := by
  apply propext
  constructor
  · rintro ⟨h0, h1, h2, h3⟩
    refine fv_inj.1 (q4_inj (Nat.lt_of_lt_of_le (fv_255 x) (by decide)) (Nat.lt_of_lt_of_le (fv_255 y) (by decide)) ?_)
    simp only [q4, h0, h1, h2, h3]
  · rintro rfl; exact ⟨rfl, rfl, rfl, rfl⟩
theorem wd00 (k : Nat) : wd (fv 0) k = 0 := by rw [fv_zero, wd, Nat.zero_div, Nat.zero_mod]
theorem wdz (x : Fp) : (wd (fv x) 0 = 0 ∧ wd (fv x) 1 = 0 ∧ wd (fv x) 2 = 0 ∧ wd (fv x) 3 = 0) = (x = 0) := by
  have h := wdq x 0
  rw [wd00, wd00, wd00, wd00] at h
  exact h
def atE (x y : Fp) : Cv.EP Fp := ⟨x, y, 1, x * y⟩
def noneE : Cv.EP Fp := atE 0 1
theorem fCvAt_spec (x y : Fp) : FSpec Tryz.prog 87 [.agg (q4 (fv x) ++ q4 (fv y))] [] (.agg (ptC (atE x y))) [] := by
  refine FSpec.of_W fCvAt_low (by simp) ?_
  simp only [initEnv, ptC, atE]
  simp [q4]
  refine WO_callP [] rfl rfl fSmall1 (by simp [q4]) (by simp [q4]) ?_
  simp [q4]
  refine WO_callP [] rfl rfl (fMul2 x y ⟨false, true, false⟩) (by simp [q4]) (by simp [q4]) ?_
  simp [q4]
  exact fin_W (by simp [q4])
theorem fCvNone_spec : FSpec Tryz.prog 94 [] [] (.agg (ptC noneE)) [] := by
  have h := fCvAt_spec 0 1
  refine FSpec.of_W fCvNone_low (by simp) ?_
  simp only [initEnv, ptC, noneE] at h ⊢
  simp only [q4, wd00, List.cons_append, List.nil_append] at h
  simp [q4]
  refine WO_callP [] rfl rfl fSmall1 (by simp [q4]) (by simp [q4]) ?_
  simp [q4]
  refine WO_callP [] rfl rfl h (by simp [q4, atE]) (by simp [q4]) ?_
  simp [q4, atE]
  exact fin_W (by simp [q4, wd00])
def zeroE : Cv.EP Fp := ⟨0, 0, 0, 0⟩
def wholeE (p : Cv.EP Fp) : Cv.EP Fp := if p.x = 0 ∧ p.y = 0 ∧ p.z = 0 ∧ p.t = 0 then noneE else p
set_option maxHeartbeats 1000000 in
theorem fCvWhole_spec (p : Cv.EP Fp) : FSpec Tryz.prog 93 [.agg (ptC p)] [] (.agg (ptC (wholeE p))) [] := by
  obtain ⟨x, y, z, t⟩ := p
  have hx := wdz x
  have hy := wdz y
  have hz := wdz z
  have ht := wdz t
  refine FSpec.of_W fCvWhole_low (by simp) ?_
  simp only [initEnv, ptC, wholeE]
  have hnone := fCvNone_spec
  simp only [ptC] at hnone
  by_cases h : x = 0 ∧ y = 0 ∧ z = 0 ∧ t = 0
  · rw [if_pos h]
    obtain ⟨rfl, rfl, rfl, rfl⟩ := h
    simp [q4, wd00, hasK, ints]
    refine WO_callP [] rfl rfl hnone (by simp [q4]) (by simp [q4]) ?_
    simp [q4]
    exact fin_W (by simp [q4])
  · rw [if_neg h]
    have hall : ¬ (wd (fv x) 0 = 0 ∧ wd (fv x) 1 = 0 ∧ wd (fv x) 2 = 0 ∧ wd (fv x) 3 = 0 ∧ wd (fv y) 0 = 0 ∧ wd (fv y) 1 = 0 ∧ wd (fv y) 2 = 0 ∧ wd (fv y) 3 = 0 ∧ wd (fv z) 0 = 0 ∧ wd (fv z) 1 = 0 ∧ wd (fv z) 2 = 0 ∧ wd (fv z) 3 = 0 ∧ wd (fv t) 0 = 0 ∧ wd (fv t) 1 = 0 ∧ wd (fv t) 2 = 0 ∧ wd (fv t) 3 = 0) := by
      rintro ⟨a1, a2, a3, a4, b1, b2, b3, b4, c1, c2, c3, c4, d1, d2, d3, d4⟩
      exact h ⟨hx ▸ ⟨a1, a2, a3, a4⟩, hy ▸ ⟨b1, b2, b3, b4⟩, hz ▸ ⟨c1, c2, c3, c4⟩, ht ▸ ⟨d1, d2, d3, d4⟩⟩
    clear hx hy hz ht hnone h
    simp [q4, hasK, ints]
    refine WC_b (fun h => ?_) (fun h => ?_)
    · exfalso
      simp only [Bool.and_eq_true, decide_eq_true_eq] at h
      exact hall h
    · simp
      exact fin_W (by simp [q4])
def ptL (l : List (Cv.EP Fp)) : List AV := l.flatMap ptC
@[simp] theorem ptC_len (p : Cv.EP Fp) : (ptC p).length = 16 := rfl
theorem ptL_len (l : List (Cv.EP Fp)) : (ptL l).length = 16 * l.length := by
  induction l with
  | nil => rfl
  | cons r l ih => rw [ptL, List.flatMap_cons, List.length_append, ptC_len, List.length_cons]; unfold ptL at ih; omega
theorem ptL_get : ∀ (l : List (Cv.EP Fp)) (i : Nat) (h : i < l.length), ((ptL l).drop (i * 16)).take 16 = ptC l[i]
  | r :: l, 0, _ => by simp only [ptL, List.flatMap_cons, Nat.zero_mul, List.drop_zero, List.getElem_cons_zero]; exact List.take_left' rfl
  | r :: l, i + 1, h => by
    have := ptL_get l i (by simpa using h)
    simp only [ptL, List.flatMap_cons, List.getElem_cons_succ] at this ⊢
    rw [show (i + 1) * 16 = 16 + i * 16 by omega, ← List.drop_drop, List.drop_left' (ptC_len r)]
    exact this
theorem ptL_lt (n : Nat) (l : List (Cv.EP Fp)) : ltL n (ptL l) = true := ltL_flatMap _ fun x => by simp [ptC, q4]
theorem ptL_ids (q : Nat → Bool) (l : List (Cv.EP Fp)) : idsL q (ptL l) = true := idsL_flatMap _ fun x => by simp [ptC, q4]
theorem ptL_sub (s : Nat → Nat → Nat → Nat → Option Nat → AV) (p : Nat → Nat → AV) (l : List (Cv.EP Fp)) : subL s p (ptL l) = ptL l := subL_flatMap _ fun x => by simp [ptC, q4]
theorem cleanL_pt (p : Cv.EP Fp) : cleanL (ptC p) = true := by simp [ptC, q4]
def addE (l : List (Cv.EP Fp)) : Cv.EP Fp := l.foldl (fun o p => Cv.sumE (toF dP) o (wholeE p)) noneE
theorem addE_take (l : List (Cv.EP Fp)) (i : Nat) (h : i < l.length) : addE (l.take (i + 1)) = Cv.sumE (toF dP) (addE (l.take i)) (wholeE l[i]) := by
  unfold addE
  rw [List.take_succ_eq_append_getElem h, List.foldl_append]
  rfl
set_option maxHeartbeats 2000000 in
theorem fCvAdd_spec (l : List (Cv.EP Fp)) (md : Md) (hl : l.length < 2 ^ 40) : FSpec Tryz.prog 56 [.list 16 md (ptL l)] [] (.agg (ptC (addE l))) [] := by
  obtain ⟨C, hC⟩ : ∃ C, C = ptL l := ⟨_, rfl⟩
  have hCl : C.length = 16 * l.length := by rw [hC]; exact ptL_len l
  have hCi : ∀ i (h : i < l.length), (C.drop (i * 16)).take 16 = ptC l[i] := by rw [hC]; exact ptL_get l
  have hC1 : ∀ n, ltL n C = true := by rw [hC]; exact fun n => ptL_lt n l
  have hC2 : ∀ q, idsL q C = true := by rw [hC]; exact fun q => ptL_ids q l
  have hC3 : ∀ s p, subL s p C = C := by rw [hC]; exact fun s p => ptL_sub s p l
  have hnone := fCvNone_spec
  have hn0 : noneE = addE (l.take 0) := rfl
  rw [hn0] at hnone
  rw [← hC]
  have e7 : ((16 * l.length : Nat) : Int) / 16 = l.length := by omega
  refine FSpec.of_W fCvAdd_low (by simp) ?_
  simp only [initEnv]
  simp
  refine WO_callP [] rfl rfl hnone (by simp [ptC, q4]) (by simp) ?_
  simp [ptC, q4, hCl]
  refine W_loop (X := { i : Nat // i ≤ l.length }) (fun i => [(2, .ptr 0 0), (3, .ptr 1 0), (7, .list 16 md C), (8, .int .i64 (l.length : Nat)), (9, .int .i64 (i.1 : Nat))]) (fun i => [some ⟨ptC zeroE, 102, true⟩, some ⟨ptC (addE (l.take i.1)), 102, true⟩]) (fun i => l.length - i.1) ⟨0, by omega⟩ retPost_le ?_ ?_
  · refine cut_w ?_
    simp [ptC, q4, zeroE, wd00, hC1]
  · rintro ⟨i, hi⟩
    simp only
    simp
    refine WC_dec (fun hlt => ?_) (fun hlt => ?_)
    · have e1 : IntKind.i64.wrap ((i : Int) + 1) = (i : Int) + 1 := wrap64s (by omega) (by omega)
      have hx := hCi i hlt
      have ht := addE_take l i hlt
      generalize l[i] = p at *
      generalize addE (l.take i) = o at *
      have hw := fCvWhole_spec p
      have hs := fCvSum_spec o (wholeE p)
      rw [← ht] at hs
      simp only [ptC] at hw hs
      simp [hCl, hx, cleanL_pt, ptC, q4]
      repeat (refine ⟨by omega, ?_⟩)
      refine WO_callP [] rfl rfl hw (by simp [q4]) (by simp [q4]) ?_
      simp [q4]
      refine WO_callP [] rfl rfl hs (by simp [q4]) (by simp [q4]) ?_
      simp [q4]
      refine ⟨⟨i + 1, by omega⟩, by simp; omega, ?_⟩
      refine cut_rw [0, 1] (by simp) rfl (by simp [e1, hC1, hC2, hC3]) ?_
      simp [ptC, q4, zeroE, wd00, hC1, hC2, hC3, e1]
    · have : i = l.length := by omega
      subst this
      simp [List.take_of_length_le, ptC, q4]
      exact fin_W (by simp [q4])
def timesE (p : Cv.EP Fp) (n : Nat) : Nat → Cv.EP Fp
  | 0 => noneE
  | k + 1 => if n / 2 ^ (255 - k) % 2 = 1 then Cv.sumE (toF dP) (Cv.sumE (toF dP) (timesE p n k) (timesE p n k)) p else Cv.sumE (toF dP) (timesE p n k) (timesE p n k)
set_option maxHeartbeats 2000000 in
theorem fCvTimes_spec (p : Cv.EP Fp) (n : Nat) : FSpec Tryz.prog 55 [.agg (ptC p), .agg (q4 n)] [] (.agg (ptC (timesE (wholeE p) n 256))) [] := by
  have hw := fCvWhole_spec p
  have hnone := fCvNone_spec
  generalize wholeE p = w at *
  have hn0 : noneE = timesE w n 0 := rfl
  rw [hn0] at hnone
  simp only [ptC] at hw hnone ⊢
  refine FSpec.of_W fCvTimes_low (by simp) ?_
  simp only [initEnv]
  simp [q4]
  refine WO_callP [] rfl rfl hw (by simp [q4]) (by simp [q4]) ?_
  simp [q4]
  refine WO_callP [] rfl rfl hnone (by simp [q4]) (by simp [q4]) ?_
  simp [q4]
  refine W_loop (X := { k : Nat // k ≤ 256 }) (fun k => [(2, .ptr 0 0), (3, .ptr 1 0), (4, .ptr 2 0), (5, .ptr 3 0), (6, .int .i64 (255 - (k.1 : Int)))]) (fun k => [some ⟨ptC w, 102, true⟩, some ⟨q4 n, 105, true⟩, some ⟨ptC zeroE, 102, true⟩, some ⟨ptC (timesE w n k.1), 102, true⟩]) (fun k => 256 - k.1) ⟨0, by omega⟩ retPost_le ?_ ?_
  · refine cut_w ?_
    simp [ptC, q4, zeroE, wd00]
  · rintro ⟨k, hk⟩
    simp only
    simp [ptC, q4]
    by_cases hlt : k < 256
    · have c0 : (0 : Int) ≤ 255 - (k : Int) := by omega
      have c2 : (k : Int) ≤ 255 := by omega
      have e1 : IntKind.i64.wrap (255 - (k : Int) - 1) = 255 - ((k + 1 : Nat) : Int) := by rw [wrap64s (by omega) (by omega)]; omega
      push_cast at e1
      have hb := fBit_spec n (255 - (k : Int))
      rw [show (255 - (k : Int)).toNat = 255 - k by omega] at hb
      have hbd : decide (0 ≤ 255 - (k : Int) ∧ 255 - (k : Int) < 256 ∧ n / 2 ^ (255 - k) % 2 = 1) = decide (n / 2 ^ (255 - k) % 2 = 1) := by
        have c1 : 255 - (k : Int) < 256 := by omega
        simp [c0, c1, c2]
      rw [hbd] at hb
      have hs1 := fCvSum_spec (timesE w n k) (timesE w n k)
      have hs2 := fCvSum_spec (Cv.sumE (toF dP) (timesE w n k) (timesE w n k)) w
      have hsucc : timesE w n (k + 1) = if n / 2 ^ (255 - k) % 2 = 1 then Cv.sumE (toF dP) (Cv.sumE (toF dP) (timesE w n k) (timesE w n k)) w else Cv.sumE (toF dP) (timesE w n k) (timesE w n k) := rfl
      generalize Cv.sumE (toF dP) (timesE w n k) (timesE w n k) = o1 at *
      generalize Cv.sumE (toF dP) o1 w = o2 at *
      generalize timesE w n k = o at *
      simp only [ptC] at hs1 hs2
      simp only [q4] at hb
      simp [c0, c2]
      refine WO_callP [] rfl rfl hs1 (by simp [q4]) (by simp [q4]) ?_
      simp [q4]
      refine WO_callP [] rfl rfl hb (by simp) (by simp) ?_
      simp
      by_cases hbit : n / 2 ^ (255 - k) % 2 = 1
      · rw [if_pos hbit] at hsucc
        simp [hbit]
        refine WO_callP [] rfl rfl hs2 (by simp [q4]) (by simp [q4]) ?_
        simp [q4]
        exact ⟨⟨k + 1, by omega⟩, by simp; omega, cut_w (by simp [ptC, q4, hsucc, e1])⟩
      · rw [if_neg hbit] at hsucc
        simp [hbit]
        exact ⟨⟨k + 1, by omega⟩, by simp; omega, cut_w (by simp [ptC, q4, hsucc, e1])⟩
    · have hk6 : k = 256 := by omega
      have c0 : ¬ (0 : Int) ≤ 255 - (k : Int) := by omega
      have c2 : ¬ (k : Int) ≤ 255 := by omega
      simp [c0, c2]
      exact fin_W (by simp [q4, hk6])
end Go.Proofs.YthgibibeoapfbaaGreat
namespace Go.Proofs.YthgibibeoapfbaaGreat
open Go Go.Fw
attribute [local irreducible] W WX WR WO WS WSr WH WHA WG WC FSpec
attribute [local simp] WS_at_map WSr_at_map loadWP splice_full Int.natCast_inj
noncomputable def decE (N : Nat) : Option (Fp × Fp) :=
  if N % 2 ^ 255 < p25 then
    let y := toF (N % 2 ^ 255)
    let q := (y * y - 1) * invF (1 + toF dP * (y * y))
    let x := toF (rootF (fv q)).1
    if (rootF (fv q)).2 = false ∨ (2 ^ 255 ≤ N ∧ x = 0) then none else some (if 2 ^ 255 ≤ N then -x else x, y)
  else none
theorem root1 (q : Fp) : FSpec Tryz.prog 85 [.agg (q4 (fv q))] [] (.tuple [.agg (q4 (fv (toF (rootF (fv q)).1))), .bool (rootF (fv q)).2]) [] := by
  have h := fFdRoot_spec (fv q) (fv_lt q)
  rw [toF_lt]
  · exact h
  · cases hr : (rootF (fv q)).2 with
    | true => exact (rootF_yes hr).2.1
    | false => rw [rootF_no hr]; exact p25_pos
set_option maxRecDepth 100000 in
set_option maxHeartbeats 4000000 in
theorem fCvDecode_spec (l : List UInt8) (hl : l.length = 32) : FSpec Tryz.prog 50 [.agg (l.map bv)] [] (match decE (byN l) with | none => .tuple [.agg (ptC zeroE), .int .i64 7] | some (x, y) => .tuple [.agg (ptC (atE x y)), .int .i64 0]) [] := by
  obtain ⟨b, hb, hb1, hb2⟩ := byN_top hl
  obtain ⟨R, hR⟩ : ∃ R, R = decE (byN l) := ⟨_, rfl⟩
  rw [← hR]
  unfold decE at hR
  have hNlt : byN l < 2 ^ 256 := by have := byN_lt l; rw [hl] at this; exact this
  obtain ⟨N, hN⟩ : ∃ N, N = byN l := ⟨_, rfl⟩
  rw [← hN] at hb1 hb2 hR hNlt
  have hge : l[31]'(by omega) = b := by rw [List.getElem?_eq_getElem (by omega)] at hb; exact Option.some.inj hb
  have hblt := b.toNat_lt
  obtain ⟨b2, hb2e⟩ : ∃ b2, b2 = UInt8.ofNat (b.toNat % 128) := ⟨_, rfl⟩
  have hand : bitI .and .u8 (b.toNat : Int) 127 = (b2.toNat : Int) := by
    rw [hb2e, show (127 : Int) = ((127 : Nat) : Int) from rfl, bitI_and rfl (show b.toNat < 2 ^ 8 by omega) (show 127 < 2 ^ 8 by decide), show (127 : Nat) = 2 ^ 7 - 1 from rfl, Nat.and_two_pow_sub_one_eq_mod, UInt8.toNat_ofNat']
    congr 1; omega
  have hshr : (b.toNat : Int).fdiv 128 = ((b.toNat / 128 : Nat) : Int) := by rw [show (128 : Int) = 2 ^ 7 from rfl]; exact shr_nat _ _
  rw [← hb2e] at hb2
  have hodd : (b.toNat / 128 = 1) = (2 ^ 255 ≤ N) := by rw [hb1]; apply propext; omega
  obtain ⟨o, ho⟩ : ∃ o, o = b.toNat / 128 := ⟨_, rfl⟩
  rw [← ho] at hshr hodd
  have hlen2 : (l.set 31 b2).length = 32 := by rw [List.length_set, hl]
  have hdec := fFdDecode_spec (l.set 31 b2) hlen2
  rw [hb2] at hdec
  have hset : (l.map bv).set 31 (.int .u8 (b2.toNat : Int)) = (l.set 31 b2).map bv := by rw [List.map_set]; rfl
  generalize l.set 31 b2 = l2 at *
  refine FSpec.of_W fCvDecode_low (by simp) ?_
  simp only [initEnv]
  simp [hl, hge, hand, hshr, hset, hlen2, IntKind.bits, List.take_of_length_le]
  by_cases c1 : N % 2 ^ 255 < p25
  rotate_left
  · rw [if_neg c1] at hR
    rw [hR]
    rw [decP, if_neg c1] at hdec
    refine WO_callP [] rfl rfl hdec (by simp [q4]) (by simp) ?_
    simp [q4]
    exact fin_W (by simp [ptC, q4, zeroE, wd00])
  rw [if_pos c1] at hR
  rw [decP, if_pos c1, ← toF_lt c1] at hdec
  generalize toF (N % 2 ^ 255) = y at *
  have hD := fCvD_spec
  simp only at hR
  have hroot := root1 ((y * y - 1) * invF (1 + toF dP * (y * y)))
  have hneg := fNeg1 (toF (rootF (fv ((y * y - 1) * invF (1 + toF dP * (y * y))))).1)
  have hi := fInv1 (1 + toF dP * (y * y))
  generalize toF dP = d at *
  refine WO_callP [] rfl rfl hdec (by simp [q4]) (by simp) ?_
  simp [q4]
  refine WO_callQ rfl fSmall1 (by simp [q4]) ?_
  simp [q4]
  refine WO_callQ rfl (fMul2 y y ⟨false, true, false⟩) (by simp [q4]) ?_
  generalize y * y = y2 at *
  simp [q4]
  refine WO_callP [] rfl rfl (fSub2 y2 1) (by simp [q4]) (by simp) ?_
  simp [q4]
  refine WO_callQ rfl hD (by simp [q4]) ?_
  simp [q4]
  refine WO_callQ rfl (fMul2 d y2 ⟨false, true, false⟩) (by simp [q4]) ?_
  simp [q4]
  refine WO_callQ rfl (fAdd2 1 (d * y2) ⟨false, true, false⟩) (by simp [q4]) ?_
  simp [q4]
  refine WO_callQ rfl hi (by simp [q4]) ?_
  simp [q4]
  refine WO_callQ rfl (fMul2 (y2 - 1) (invF (1 + d * y2)) ⟨false, true, false⟩) (by simp [q4]) ?_
  generalize (y2 - 1) * invF (1 + d * y2) = q at *
  simp [q4]
  refine WO_callQ rfl hroot (by simp [q4]) ?_
  generalize toF (rootF (fv q)).1 = x at *
  generalize (rootF (fv q)).2 = ok at *
  simp [q4]
  cases ok with
  | false =>
    rw [if_pos (.inl rfl)] at hR
    rw [hR]
    simp
    exact fin_W (by simp [ptC, q4, zeroE, wd00])
  | true =>
    by_cases ho1 : o = 1
    · have hge2 : 2 ^ 255 ≤ N := hodd ▸ ho1
      by_cases hx0 : x = 0
      · rw [if_pos (.inr ⟨hge2, hx0⟩)] at hR
        rw [hR]
        subst hx0
        simp [ho1, wd00, hasK, ints]
        exact fin_W (by simp [ptC, q4, zeroE, wd00])
      · rw [if_neg (fun z => z.elim (by simp) fun w => hx0 w.2), if_pos hge2] at hR
        rw [hR]
        have hz := wdz x
        have hat := fCvAt_spec (-x) y
        generalize -x = nx at *
        simp only [ptC, atE] at hat ⊢
        simp [ho1, hasK, ints]
        refine WC_b (fun h => ?_) (fun h => ?_)
        · exfalso
          simp only [Bool.and_eq_true, decide_eq_true_eq] at h
          exact hx0 (hz ▸ h)
        · simp
          refine WO_callP [] rfl rfl hneg (by simp [q4]) (by simp) ?_
          simp [q4]
          refine WO_callP [] rfl rfl hat (by simp [q4]) (by simp) ?_
          simp [q4]
          exact fin_W (by simp [q4])
    · have hge2 : ¬ 2 ^ 255 ≤ N := fun z => ho1 (hodd.symm ▸ z)
      rw [if_neg (fun z => z.elim (by simp) fun w => hge2 w.1), if_neg hge2] at hR
      rw [hR]
      have hat := fCvAt_spec x y
      simp only [ptC, atE] at hat ⊢
      have ho1' : ¬ (o : Int) = 1 := by omega
      simp [ho1, ho1']
      refine WO_callP [] rfl rfl hat (by simp [q4]) (by simp) ?_
      simp [q4]
      exact fin_W (by simp [q4])
end Go.Proofs.YthgibibeoapfbaaGreat
namespace Go.Proofs.YthgibibeoapfbaaGreat
open Go Go.Fw
attribute [local irreducible] W WX WR WO WS WSr WH WHA WG WC FSpec
attribute [local simp] WS_at_map WSr_at_map loadWP splice_full Int.natCast_inj
theorem q17_d (a : Nat) (R : List AV) : List.drop 17 (q17 a ++ R) = R := List.drop_left' (q17_length a)
theorem q17_t (a : Nat) (R : List AV) : List.take 17 (q17 a ++ R) = q17 a := List.take_left' (q17_length a)
theorem q17_t0 (a : Nat) : List.take 17 (q17 a) = q17 a := List.take_of_length_le (by rw [q17_length]; exact Nat.le_refl _)
theorem q17_d34 (a b : Nat) (R : List AV) : List.drop 34 (q17 a ++ (q17 b ++ R)) = R := by
  rw [show 34 = 17 + 17 from rfl, ← List.drop_drop, q17_d, q17_d]
theorem q17_s0 (L : List AV) (a : Nat) (h : 17 ≤ L.length) : splice L 0 (q17 a) = q17 a ++ L.drop 17 := by
  rw [splice_take_drop _ _ _ (by rw [q17_length]; omega), q17_length]
  rfl
theorem q17_s17 (a b : Nat) (R : List AV) (h : 17 ≤ R.length) : splice (q17 a ++ R) 17 (q17 b) = q17 a ++ (q17 b ++ R.drop 17) := by
  rw [splice_take_drop _ _ _ (by rw [List.length_append, q17_length, q17_length]; omega), q17_length, q17_t, List.append_assoc, ← List.drop_drop, q17_d]
theorem q17_s34 (a b c : Nat) (R : List AV) (h : 17 ≤ R.length) : splice (q17 a ++ (q17 b ++ R)) 34 (q17 c) = q17 a ++ (q17 b ++ (q17 c ++ R.drop 17)) := by
  have e1 : List.take 34 (q17 a ++ (q17 b ++ R)) = q17 a ++ q17 b := by
    rw [← List.append_assoc]; exact List.take_left' (by rw [List.length_append, q17_length, q17_length])
  rw [splice_take_drop _ _ _ (by simp only [List.length_append, q17_length]; omega), q17_length, e1, ← List.drop_drop, q17_d34, List.append_assoc, List.append_assoc]
theorem q17_t51 (a b c : Nat) : List.take 51 (q17 a ++ (q17 b ++ q17 c)) = q17 a ++ (q17 b ++ q17 c) := List.take_of_length_le (by simp only [List.length_append, q17_length]; decide)
attribute [local simp] q17_d q17_t q17_t0 q17_d34 q17_t51 q17_s0 q17_s17 q17_s34
def rpC (p : Cv.RP Fp) : List AV := q17 (fv p.x) ++ (q17 (fv p.y) ++ q17 (fv p.z))
theorem rMul (x y : Fp) : FSpec Tryz.prog 36 [.agg (q17 (fv x)), .agg (q17 (fv y))] [] (.agg (q17 (fv (x * y)))) [] := by
  rw [fv_mul]; exact fQMul_spec _ _ (fv_255 x) (fv_255 y)
theorem rAdd (x y : Fp) : FSpec Tryz.prog 43 [.agg (q17 (fv x)), .agg (q17 (fv y))] [] (.agg (q17 (fv (x + y)))) [] := by
  rw [fv_add]; exact fQAdd_spec _ _ (fv_255 x) (fv_255 y)
theorem rSub (x y : Fp) : FSpec Tryz.prog 74 [.agg (q17 (fv x)), .agg (q17 (fv y))] [] (.agg (q17 (fv (x - y)))) [] := by
  rw [fv_sub]; exact fQSub_spec _ _ (fv_lt x) (fv_lt y)
theorem rNeg (x : Fp) : FSpec Tryz.prog 41 [.agg (q17 (fv x))] [] (.agg (q17 (fv (-x)))) [] := by
  rw [fv_neg]; exact fQNeg_spec _ (fv_lt x)
theorem rInv (x : Fp) : FSpec Tryz.prog 35 [.agg (q17 (fv x))] [] (.agg (q17 (fv (invF x)))) [] := by
  rw [fv_invF]; exact fQInvert_spec _ (fv_lt x)
theorem rSmall (n : Nat) (h : n ≤ 2 ^ 40) : FSpec Tryz.prog 42 [.int .i64 (n : Nat)] [] (.agg (q17 (fv (toF n)))) [] := by
  rw [fv_toF]; exact fQSmall_spec n h
def noneR : Cv.RP Fp := ⟨toF 0, toF 1, toF 1⟩
theorem fRCvNone_spec : FSpec Tryz.prog 38 [] [] (.agg (rpC noneR)) [] := by
  have h0 := rSmall 0 (by decide)
  have h1 := rSmall 1 (by decide)
  unfold rpC noneR
  generalize toF 0 = a at *
  generalize toF 1 = b at *
  refine FSpec.of_W fRCvNone_low (by simp) ?_
  simp only [initEnv]
  simp
  refine WO_callP [] rfl rfl h0 (by simp) (by simp) ?_
  simp
  refine WO_callP [] rfl rfl h1 (by simp) (by simp) ?_
  simp
  refine WO_callP [] rfl rfl h1 (by simp) (by simp) ?_
  simp
  exact fin_W (by simp)
set_option maxRecDepth 100000 in
set_option maxHeartbeats 4000000 in
theorem fRCvAdd_spec (p q : Cv.RP Fp) (d : Fp) : FSpec Tryz.prog 39 [.agg (rpC p), .agg (rpC q), .agg (q17 (fv d))] [] (.agg (rpC (Cv.addR d p q))) [] := by
  obtain ⟨x1, y1, z1⟩ := p
  obtain ⟨x2, y2, z2⟩ := q
  unfold rpC Cv.addR
  simp only
  refine FSpec.of_W fRCvAdd_low (by simp) ?_
  simp only [initEnv]
  simp
  refine WO_callP [] rfl rfl (rMul z1 z2) (by simp) (by simp) ?_
  generalize z1 * z2 = a
  simp
  refine WO_callP [] rfl rfl (rMul a a) (by simp) (by simp) ?_
  generalize a * a = b
  simp
  refine WO_callP [] rfl rfl (rMul x1 x2) (by simp) (by simp) ?_
  generalize x1 * x2 = c
  simp
  refine WO_callP [] rfl rfl (rMul y1 y2) (by simp) (by simp) ?_
  generalize y1 * y2 = e
  simp
  refine WO_callQ rfl (rMul c e) (by simp) ?_
  simp
  refine WO_callQ rfl (rMul d (c * e)) (by simp) ?_
  generalize d * (c * e) = f
  simp
  refine WO_callP [] rfl rfl (rSub b f) (by simp) (by simp) ?_
  generalize b - f = g
  simp
  refine WO_callP [] rfl rfl (rAdd b f) (by simp) (by simp) ?_
  generalize b + f = h
  simp
  refine WO_callQ rfl (rAdd x1 y1) (by simp) ?_
  simp
  refine WO_callQ rfl (rAdd x2 y2) (by simp) ?_
  simp
  refine WO_callQ rfl (rMul (x1 + y1) (x2 + y2)) (by simp) ?_
  simp
  refine WO_callQ rfl (rSub ((x1 + y1) * (x2 + y2)) c) (by simp) ?_
  simp
  refine WO_callQ rfl (rSub ((x1 + y1) * (x2 + y2) - c) e) (by simp) ?_
  generalize (x1 + y1) * (x2 + y2) - c - e = w
  simp
  refine WO_callP [] rfl rfl (rMul a g) (by simp) (by simp) ?_
  simp
  refine WO_callP [] rfl rfl (rMul (a * g) w) (by simp) (by simp) ?_
  simp
  refine WO_callP [] rfl rfl (rMul a h) (by simp) (by simp) ?_
  simp
  refine WO_callP [] rfl rfl (rAdd e c) (by simp) (by simp) ?_
  simp
  refine WO_callP [] rfl rfl (rMul (a * h) (e + c)) (by simp) (by simp) ?_
  simp
  refine WO_callP [] rfl rfl (rMul g h) (by simp) (by simp) ?_
  simp
  exact fin_W (by simp)
end Go.Proofs.YthgibibeoapfbaaGreat
namespace Go.Proofs.YthgibibeoapfbaaGreat
open Go Go.Fw
attribute [local irreducible] W WX WR WO WS WSr WH WHA WG WC FSpec
attribute [local simp] WS_at_map WSr_at_map loadWP splice_full Int.natCast_inj WS_at_q4 WSr_at_q4 q17_d q17_t q17_t0 q17_d34 q17_t51 q17_s0 q17_s17 q17_s34
theorem dP_eq : -(toF 3 * (toF 30000 + toF 10555)) * invF (toF 4 * toF 30000 + toF 1666) = toF dP := by
  have hm : toF 4 * toF 30000 + toF 1666 = toF 121666 := by
    apply fv_inj.1
    rw [fv_add, fv_mul, fv_toF, fv_toF, fv_toF, fv_toF]
    decide +kernel
  have hn : -(toF 3 * (toF 30000 + toF 10555)) = toF dP * toF 121666 := by
    apply fv_inj.1
    rw [fv_neg, fv_mul, fv_add, fv_mul, fv_toF, fv_toF, fv_toF, fv_toF, fv_toF]
    decide +kernel
  have h0 : toF 121666 ≠ 0 := by
    intro h
    have := congrArg fv h
    rw [fv_toF, fv_zero] at this
    exact absurd this (by decide +kernel)
  rw [hm, hn]
  have := invF_mul _ h0
  generalize toF dP = d at *
  generalize toF 121666 = m at *
  have e : d * m * invF m = d * (m * invF m) := by grind
  rw [e, this]; grind
theorem fRCvD_spec : FSpec Tryz.prog 18 [] [] (.agg (q17 (fv (toF dP)))) [] := by
  have h3 := rSmall 3 (by decide)
  have h30 := rSmall 30000 (by decide)
  have h10 := rSmall 10555 (by decide)
  have h4 := rSmall 4 (by decide)
  have h16 := rSmall 1666 (by decide)
  rw [← dP_eq]
  generalize toF 3 = a at *
  generalize toF 30000 = b at *
  generalize toF 10555 = c at *
  generalize toF 4 = e at *
  generalize toF 1666 = f at *
  refine FSpec.of_W fRCvD_low (by simp) ?_
  simp only [initEnv]
  simp
  refine WO_callP [] rfl rfl h3 (by simp) (by simp) ?_
  simp
  refine WO_callP [] rfl rfl h30 (by simp) (by simp) ?_
  simp
  refine WO_callP [] rfl rfl h10 (by simp) (by simp) ?_
  simp
  refine WO_callP [] rfl rfl (rAdd b c) (by simp) (by simp) ?_
  simp
  refine WO_callP [] rfl rfl (rMul a (b + c)) (by simp) (by simp) ?_
  simp
  refine WO_callP [] rfl rfl (rNeg (a * (b + c))) (by simp) (by simp) ?_
  simp
  refine WO_callP [] rfl rfl h4 (by simp) (by simp) ?_
  simp
  refine WO_callP [] rfl rfl h30 (by simp) (by simp) ?_
  simp
  refine WO_callP [] rfl rfl (rMul e b) (by simp) (by simp) ?_
  simp
  refine WO_callP [] rfl rfl h16 (by simp) (by simp) ?_
  simp
  refine WO_callP [] rfl rfl (rAdd (e * b) f) (by simp) (by simp) ?_
  simp
  refine WO_callP [] rfl rfl (rInv (e * b + f)) (by simp) (by simp) ?_
  simp
  refine WO_callP [] rfl rfl (rMul (-(a * (b + c))) (invF (e * b + f))) (by simp) (by simp) ?_
  simp
  exact fin_W (by simp)
def timesR (p : Cv.RP Fp) (n : Nat) (d : Fp) : Nat → Cv.RP Fp
  | 0 => noneR
  | k + 1 => if n / 2 ^ (255 - k) % 2 = 1 then Cv.addR d (Cv.addR d (timesR p n d k) (timesR p n d k)) p else Cv.addR d (timesR p n d k) (timesR p n d k)
set_option maxRecDepth 100000 in
set_option maxHeartbeats 4000000 in
theorem fRCvTimes_spec (p : Cv.RP Fp) (n : Nat) (d : Fp) : FSpec Tryz.prog 16 [.agg (rpC p), .agg (q4 n), .agg (q17 (fv d))] [] (.agg (rpC (timesR p n d 256))) [] := by
  have hnone := fRCvNone_spec
  have hn0 : noneR = timesR p n d 0 := rfl
  rw [hn0] at hnone
  simp only [rpC] at hnone ⊢
  refine FSpec.of_W fRCvTimes_low (by simp) ?_
  simp only [initEnv]
  simp
  refine WO_callP [] rfl rfl hnone (by simp) (by simp) ?_
  simp
  refine W_loop (X := { k : Nat // k ≤ 256 }) (fun k => [(3, .ptr 0 0), (4, .ptr 1 0), (5, .ptr 2 0), (6, .ptr 3 0), (7, .ptr 4 0), (8, .int .i64 (255 - (k.1 : Int)))]) (fun k => [some ⟨rpC p, 58, true⟩, some ⟨q4 n, 51, true⟩, some ⟨q17 (fv d), 56, true⟩, some ⟨List.replicate 51 (.int .i64 0), 58, true⟩, some ⟨rpC (timesR p n d k.1), 58, true⟩]) (fun k => 256 - k.1) ⟨0, by omega⟩ retPost_le ?_ ?_
  · refine cut_w ?_
    simp [rpC]
  · rintro ⟨k, hk⟩
    simp only
    simp [rpC]
    by_cases hlt : k < 256
    · obtain ⟨j, hj⟩ : ∃ j, j = 255 - k := ⟨_, rfl⟩
      have hji : 255 - (k : Int) = (j : Int) := by omega
      have e0 : IntKind.i64.wrap ((j : Int) - 1) = 255 - ((k + 1 : Nat) : Int) := by rw [wrap64s (by omega) (by omega)]; omega
      push_cast at e0
      have c2 : (k : Int) ≤ 255 := by omega
      obtain ⟨q, hq⟩ : ∃ q, q = j / 64 := ⟨_, rfl⟩
      obtain ⟨r, hr⟩ : ∃ r, r = j % 64 := ⟨_, rfl⟩
      have e1 : (j : Int).tdiv 64 = (q : Int) := by rw [hq]; rfl
      have e2 : (j : Int).tmod 64 = (r : Int) := by rw [hr]; rfl
      have e5 : ((wd n q : Nat) : Int).fdiv (2 ^ min r 64) = ((wd n q / 2 ^ r : Nat) : Int) := by rw [show min r 64 = r by omega]; exact shr_nat _ _
      have e6 : (q : Int) < 4 := by omega
      have e7 : q < 4 := by omega
      have e3 := wd_bit' n j
      rw [← hq, ← hr] at e3
      generalize wd n q / 2 ^ r = z at *
      have e8 : (z : Int).tmod 2 = ((n / 2 ^ j % 2 : Nat) : Int) := by rw [← e3]; rfl
      have hs1 := fRCvAdd_spec (timesR p n d k) (timesR p n d k) d
      have hs2 := fRCvAdd_spec (Cv.addR d (timesR p n d k) (timesR p n d k)) p d
      have hsucc : timesR p n d (k + 1) = if n / 2 ^ (255 - k) % 2 = 1 then Cv.addR d (Cv.addR d (timesR p n d k) (timesR p n d k)) p else Cv.addR d (timesR p n d k) (timesR p n d k) := rfl
      rw [← hj] at hsucc
      obtain ⟨y, hy⟩ : ∃ y, y = n / 2 ^ j % 2 := ⟨_, rfl⟩
      rw [← hy] at e8 hsucc
      generalize Cv.addR d (timesR p n d k) (timesR p n d k) = o1 at *
      generalize Cv.addR d o1 p = o2 at *
      generalize timesR p n d k = o at *
      simp only [rpC] at hs1 hs2
      simp [c2]
      refine WO_callP [] rfl rfl hs1 (by simp) (by simp) ?_
      simp [hji, e1, e2, e6, e7, e5, e8, IntKind.bits, wrap64s (n := (q : Int)) (by omega) (by omega)]
      refine WC_dec (fun h => ?_) (fun h => ?_)
      · have h' : y = 1 := by omega
        rw [if_pos h'] at hsucc
        simp
        refine WO_callP [] rfl rfl hs2 (by simp) (by simp) ?_
        simp
        exact ⟨⟨k + 1, by omega⟩, by simp; omega, cut_w (by simp [rpC, hsucc, e0])⟩
      · have h' : ¬ y = 1 := by omega
        rw [if_neg h'] at hsucc
        simp
        exact ⟨⟨k + 1, by omega⟩, by simp; omega, cut_w (by simp [rpC, hsucc, e0])⟩
    · have hk6 : k = 256 := by omega
      have c2 : ¬ (k : Int) ≤ 255 := by omega
      simp [c2]
      exact fin_W (by simp [hk6])
noncomputable def affR (p : Cv.RP Fp) : Fp × Fp := (p.x * invF p.z, p.y * invF p.z)
theorem or128_add {m : Nat} (h : m < 128) : IntKind.u8.wrap (((UInt8.ofNat m).toNat : Int) + 128) = ((UInt8.ofNat (m + 128)).toNat : Int) := by
  have e1 : (UInt8.ofNat m).toNat = m := by rw [UInt8.toNat_ofNat']; omega
  rw [e1, show (m : Int) + 128 = ((m + 128 : Nat) : Int) by omega]
  exact wrap8_u8 _
set_option maxHeartbeats 1000000 in
theorem fRCvEncode_spec (p : Cv.RP Fp) : FSpec Tryz.prog 15 [.agg (rpC p)] [] (.agg ((enc32 (affR p).1 (affR p).2).map bv)) [] := by
  obtain ⟨x0, y0, z⟩ := p
  simp only [affR, rpC]
  have hbts := fQBytes_spec (fv (y0 * invF z)) (fv_255 _)
  have hm1 := rMul x0 (invF z)
  have hm2 := rMul y0 (invF z)
  have hi := rInv z
  generalize invF z = iz at *
  generalize x0 * iz = x at *
  generalize y0 * iz = y at *
  have hy := fv_255 y
  have htop := byL_top (fv y)
  have hadd := byL_add_top hy
  have hor := or128_add (top_lt hy)
  have hlen : (byL 32 (fv y)).length = 32 := byL_len _ _
  have hl2 : (byL 32 (fv y + 2 ^ 255)).length = 32 := byL_len _ _
  unfold enc32
  generalize fv y / 256 ^ 31 = m at *
  have hpar : dig (fv x) 0 % 2 = fv x % 2 := by unfold dig; omega
  refine FSpec.of_W fRCvEncode_low (by simp) ?_
  simp only [initEnv]
  simp
  refine WO_callP [] rfl rfl hi (by simp) (by simp) ?_
  simp
  refine WO_callP [] rfl rfl hm1 (by simp) (by simp) ?_
  simp
  refine WO_callP [] rfl rfl hm2 (by simp) (by simp) ?_
  simp
  refine WO_callP [] rfl rfl hbts (by simp) (by simp) ?_
  simp [hlen]
  have hat : atF (q17 (fv x)) 0 = some (True, .int .i64 (dig (fv x) 0 : Nat)) := rfl
  have htm : ((dig (fv x) 0 : Nat) : Int).tmod 2 = ((fv x % 2 : Nat) : Int) := by rw [← hpar]; rfl
  obtain ⟨o, ho⟩ : ∃ o, o = fv x % 2 := ⟨_, rfl⟩
  rw [← ho] at htm ⊢
  simp [hat, htm]
  refine WC_dec (fun hodd => ?_) (fun hodd => ?_)
  · have ho1 : o = 1 := by omega
    have hge : (byL 32 (fv y))[31]'(by rw [hlen]; decide) = UInt8.ofNat m := by
      rw [List.getElem?_eq_getElem (by rw [hlen]; decide)] at htop
      exact Option.some.inj htop
    have hset : ((byL 32 (fv y)).map bv).set 31 (.int .u8 ((UInt8.ofNat (m + 128)).toNat : Int)) = (byL 32 (fv y + 2 ^ 255)).map bv := by
      rw [← hadd, List.map_set]; rfl
    rw [show 2 ^ 255 * o = 2 ^ 255 by rw [ho1]]
    generalize byL 32 (fv y + 2 ^ 255) = B2 at *
    generalize UInt8.ofNat m = u at *
    generalize UInt8.ofNat (m + 128) = u2 at *
    generalize byL 32 (fv y) = B at *
    simp [hlen, hl2, hge, hor, hset, List.take_of_length_le]
    exact fin_W (by simp)
  · have h0 : o = 0 := by omega
    simp [hlen, List.take_of_length_le]
    exact fin_W (by simp [h0])
end Go.Proofs.YthgibibeoapfbaaGreat
namespace Go.Proofs.YthgibibeoapfbaaGreat
open Go Go.Fw
attribute [local irreducible] W WX WR WO WS WSr WH WHA WG WC FSpec
attribute [local simp] WS_at_map WSr_at_map loadWP splice_full Int.natCast_inj q17_d q17_t q17_t0 q17_d34 q17_t51 q17_s0 q17_s17 q17_s34
theorem hk17 (n : Nat) : hasK [.i64, .i64, .i64, .i64, .i64, .i64, .i64, .i64, .i64, .i64, .i64, .i64, .i64, .i64, .i64, .i64, .i64] (q17 n) = true := hasK_q17 n
attribute [local simp] hk17
theorem bq (u v : Fp) : (decide (wd (fv u) 0 = wd (fv v) 0) && (decide (wd (fv u) 1 = wd (fv v) 1) && (decide (wd (fv u) 2 = wd (fv v) 2) && decide (wd (fv u) 3 = wd (fv v) 3)))) = decide (u = v) := by
  rw [← Bool.decide_and, ← Bool.decide_and, ← Bool.decide_and]
  exact decide_eq_decide.2 (by rw [wdq])
def sameE (p q : Cv.EP Fp) : Bool := decide ((wholeE p).x * (wholeE q).z = (wholeE q).x * (wholeE p).z) && decide ((wholeE p).y * (wholeE q).z = (wholeE q).y * (wholeE p).z)
set_option maxRecDepth 100000 in
set_option maxHeartbeats 2000000 in
theorem fCvSame_spec (p q : Cv.EP Fp) : FSpec Tryz.prog 53 [.agg (ptC p), .agg (ptC q)] [] (.bool (sameE p q)) [] := by
  have h1 := fCvWhole_spec p
  have h2 := fCvWhole_spec q
  unfold sameE
  generalize wholeE p = a at *
  generalize wholeE q = b at *
  simp only [ptC] at h1 h2 ⊢
  have m1 := fMul2 a.x b.z ⟨false, true, false⟩
  have m2 := fMul2 b.x a.z ⟨false, true, false⟩
  have m3 := fMul2 a.y b.z ⟨false, true, false⟩
  have m4 := fMul2 b.y a.z ⟨false, true, false⟩
  generalize a.x * b.z = u1 at *
  generalize b.x * a.z = u2 at *
  generalize a.y * b.z = u3 at *
  generalize b.y * a.z = u4 at *
  have k1 := bq u1 u2
  have k2 := bq u3 u4
  refine FSpec.of_W fCvSame_low (by simp) ?_
  simp only [initEnv]
  simp [q4]
  refine WO_callP [] rfl rfl h1 (by simp [q4]) (by simp [q4]) ?_
  simp [q4]
  refine WO_callP [] rfl rfl h2 (by simp [q4]) (by simp [q4]) ?_
  simp [q4]
  refine WO_callP [] rfl rfl m1 (by simp [q4]) (by simp [q4]) ?_
  simp [q4]
  refine WO_callP [] rfl rfl m2 (by simp [q4]) (by simp [q4]) ?_
  simp [q4, hasK, ints, k1]
  by_cases c1 : u1 = u2
  · simp [c1]
    refine WO_callP [] rfl rfl m3 (by simp [q4]) (by simp [q4]) ?_
    simp [q4]
    refine WO_callP [] rfl rfl m4 (by simp [q4]) (by simp [q4]) ?_
    simp [q4, hasK, ints, k2]
    exact fin_W (by simp)
  · simp [c1]
    exact fin_W (by simp)
def sameR (p q : Cv.RP Fp) : Bool := decide (p.x * q.z = q.x * p.z) && decide (p.y * q.z = q.y * p.z)
set_option maxHeartbeats 2000000 in
theorem fRCvSame_spec (p q : Cv.RP Fp) : FSpec Tryz.prog 62 [.agg (rpC p), .agg (rpC q)] [] (.bool (sameR p q)) [] := by
  obtain ⟨x1, y1, z1⟩ := p
  obtain ⟨x2, y2, z2⟩ := q
  unfold sameR
  simp only [rpC]
  have m1 := rMul x1 z2
  have m2 := rMul x2 z1
  have m3 := rMul y1 z2
  have m4 := rMul y2 z1
  generalize x1 * z2 = u1 at *
  generalize x2 * z1 = u2 at *
  generalize y1 * z2 = u3 at *
  generalize y2 * z1 = u4 at *
  have i1 : (ints (q17 (fv u1)) = ints (q17 (fv u2))) = (u1 = u2) := by rw [ints_q17 (fv_255 _) (fv_255 _)]; exact propext fv_inj
  have i2 : (ints (q17 (fv u3)) = ints (q17 (fv u4))) = (u3 = u4) := by rw [ints_q17 (fv_255 _) (fv_255 _)]; exact propext fv_inj
  refine FSpec.of_W fRCvSame_low (by simp) ?_
  simp only [initEnv]
  simp
  refine WO_callP [] rfl rfl m1 (by simp) (by simp) ?_
  simp
  refine WO_callP [] rfl rfl m2 (by simp) (by simp) ?_
  simp [i1]
  by_cases c1 : u1 = u2
  · simp [c1]
    refine WO_callP [] rfl rfl m3 (by simp) (by simp) ?_
    simp
    refine WO_callP [] rfl rfl m4 (by simp) (by simp) ?_
    simp [i2]
    exact fin_W (by simp)
  · simp [c1]
    exact fin_W (by simp)
theorem rPow (x : Fp) (e : Nat) (he : e < 2 ^ 256) : FSpec Tryz.prog 69 [.agg (q17 (fv x)), .agg (q4 e)] [] (.agg (q17 (fv (toF (fv x ^ e % p25))))) [] := by
  have h := fQPower_spec (fv x) e (fv_lt x) he
  rw [toF_lt (pow_lt _ _ _ p25_pos)]
  exact h
theorem rootR_fv (x : Fp) : ∃ r i : Fp, fv r = pwm p25 (fv x) 256 ((p25 + 3) / 8) ∧ fv i = rootI ∧ r = toF (fv x ^ ((p25 + 3) / 8) % p25) ∧ i = toF (fv (toF 2) ^ ((p25 - 1) / 4) % p25) ∧ toF (rootR (fv x)) = if r * r = x then r else r * i := by
  have h1 : pwm p25 (fv x) 256 ((p25 + 3) / 8) = fv x ^ ((p25 + 3) / 8) % p25 := pwm_eq _ _ _ _ (by decide +kernel)
  have h2 : pwm p25 (fv (toF 2)) 256 ((p25 - 1) / 4) = fv (toF 2) ^ ((p25 - 1) / 4) % p25 := pwm_eq _ _ _ _ (by decide +kernel)
  have h3 : pwm p25 (fv (toF 2)) 256 ((p25 - 1) / 4) = rootI := by rw [fv_toF]; decide +kernel
  obtain ⟨e1, he1⟩ : ∃ e, e = (p25 + 3) / 8 := ⟨_, rfl⟩
  obtain ⟨e2, he2⟩ : ∃ e, e = (p25 - 1) / 4 := ⟨_, rfl⟩
  have hlt := pow_lt p25 (fv x) e1 p25_pos
  have hlt2 := pow_lt p25 (fv (toF 2)) e2 p25_pos
  unfold rootR
  rw [← he1] at h1 ⊢
  rw [← he2] at h2 h3 ⊢
  rw [h1]
  obtain ⟨v, hv⟩ : ∃ v, v = fv x ^ e1 % p25 := ⟨_, rfl⟩
  rw [← hv] at hlt ⊢
  rw [← h2, h3]
  refine ⟨toF v, toF rootI, toF_lt hlt, toF_lt rootI_lt, rfl, rfl, ?_⟩
  have hc : (v * v % p25 = fv x) = (toF v * toF v = x) := by
    rw [← fv_inj, fv_mul, toF_lt hlt]
  by_cases c : v * v % p25 = fv x
  · rw [if_pos c, if_pos (hc ▸ c)]
  · rw [if_neg c, if_neg (fun z => c (hc.symm ▸ z))]
    apply fv_inj.1
    rw [fv_toF, fv_mul, toF_lt hlt, toF_lt rootI_lt, Nat.mod_mod]
set_option maxRecDepth 100000 in
set_option maxHeartbeats 2000000 in
theorem fRCvRoot_spec (x : Fp) : FSpec Tryz.prog 77 [.agg (q17 (fv x))] [] (.agg (q17 (fv (toF (rootR (fv x)))))) [] := by
  obtain ⟨r, i, hr, hi, hr2, hi2, hR⟩ := rootR_fv x
  have h1 := rPow x ((p25 + 3) / 8) (by decide +kernel)
  have h2 := rPow (toF 2) ((p25 - 1) / 4) (by decide +kernel)
  rw [← hr2] at h1
  rw [← hi2] at h2
  rw [hR]
  have hs := rSmall 2 (by decide)
  have m1 := rMul r r
  have m2 := rMul r i
  have hq1 : q4 ((p25 + 3) / 8) = [.int .u64 18446744073709551614, .int .u64 18446744073709551615, .int .u64 18446744073709551615, .int .u64 1152921504606846975] := by
    simp only [q4, show wd ((p25 + 3) / 8) 0 = 18446744073709551614 by decide +kernel, show wd ((p25 + 3) / 8) 1 = 18446744073709551615 by decide +kernel, show wd ((p25 + 3) / 8) 2 = 18446744073709551615 by decide +kernel, show wd ((p25 + 3) / 8) 3 = 1152921504606846975 by decide +kernel]
    rfl
  have hq2 : q4 ((p25 - 1) / 4) = [.int .u64 18446744073709551611, .int .u64 18446744073709551615, .int .u64 18446744073709551615, .int .u64 2305843009213693951] := by
    simp only [q4, show wd ((p25 - 1) / 4) 0 = 18446744073709551611 by decide +kernel, show wd ((p25 - 1) / 4) 1 = 18446744073709551615 by decide +kernel, show wd ((p25 - 1) / 4) 2 = 18446744073709551615 by decide +kernel, show wd ((p25 - 1) / 4) 3 = 2305843009213693951 by decide +kernel]
    rfl
  rw [hq1] at h1
  rw [hq2] at h2
  clear hq1 hq2 hr2 hi2 hR hr hi
  generalize toF 2 = two at *
  have i1 : (ints (q17 (fv (r * r))) = ints (q17 (fv x))) = (r * r = x) := by rw [ints_q17 (fv_255 _) (fv_255 _)]; exact propext fv_inj
  refine FSpec.of_W fRCvRoot_low (by simp) ?_
  simp only [initEnv]
  simp
  refine WO_callP [] rfl rfl h1 (by simp) (by simp) ?_
  simp
  refine WO_callP [] rfl rfl m1 (by simp) (by simp) ?_
  simp [i1]
  by_cases c : r * r = x
  · simp [c]
    exact fin_W (by simp)
  · simp [c]
    refine WO_callP [] rfl rfl hs (by simp) (by simp) ?_
    simp
    refine WO_callP [] rfl rfl h2 (by simp) (by simp) ?_
    simp
    refine WO_callP [] rfl rfl m2 (by simp) (by simp) ?_
    simp
    exact fin_W (by simp)
end Go.Proofs.YthgibibeoapfbaaGreat
namespace Go.Proofs.YthgibibeoapfbaaGreat
open Go Go.Fw
attribute [local irreducible] W WX WR WO WS WSr WH WHA WG WC FSpec
attribute [local simp] WS_at_map WSr_at_map loadWP splice_full Int.natCast_inj q17_d q17_t q17_t0 q17_d34 q17_t51 q17_s0 q17_s17 q17_s34 hk17
theorem toF_one : toF 1 = 1 := by apply fv_inj.1; rw [fv_toF, fv_one]; exact Nat.mod_eq_of_lt (by decide)
theorem toF_zero : toF 0 = 0 := by apply fv_inj.1; rw [fv_toF, fv_zero, Nat.zero_mod]
theorem neg_neg_gen {K : Type} [Lean.Grind.CommRing K] (a : K) : - -a = a := by grind
theorem neg_zero_gen {K : Type} [Lean.Grind.CommRing K] (a : K) : (-a = 0) = (a = 0) := by
  apply propext; constructor <;> intro h <;> grind
theorem neg_par {r : Fp} (h : r ≠ 0) : fv (-r) % 2 = 1 - fv r % 2 := by
  have h0 : fv r ≠ 0 := fun z => h (fv_inj.1 (by rw [z, fv_zero]))
  have hl := fv_lt r
  have hp : p25 % 2 = 1 := by decide
  rw [fv_neg]
  unfold negP
  rw [if_neg h0]
  omega
theorem root_even (q : Fp) : (rootF (fv q)).2 = decide (toF (rootR (fv q)) * toF (rootR (fv q)) = q) ∧ ((rootF (fv q)).2 = true → toF (rootF (fv q)).1 = if fv (toF (rootR (fv q))) % 2 = 1 then -toF (rootR (fv q)) else toF (rootR (fv q))) := by
  have hl := rootR_lt (fv q)
  have hc : (rootR (fv q) * rootR (fv q) % p25 = fv q) = (toF (rootR (fv q)) * toF (rootR (fv q)) = q) := by
    rw [← fv_inj, fv_mul, toF_lt hl]
  unfold rootF
  rw [toF_lt hl]
  generalize rootR (fv q) = r at *
  by_cases c : r * r % p25 = fv q
  · rw [if_pos c]
    refine ⟨(decide_eq_true (hc ▸ c)).symm, fun _ => ?_⟩
    show toF (if r % 2 = 1 then negP r else r) = _
    split
    · apply fv_inj.1; rw [fv_neg, toF_lt hl, toF_lt (negP_lt r)]
    · rfl
  · rw [if_neg c]
    exact ⟨(decide_eq_false fun z => c (hc.symm ▸ z)).symm, fun z => by cases z⟩
theorem decE_ref (N : Nat) (h : N % 2 ^ 255 < p25) {y q r : Fp} (hy : y = toF (N % 2 ^ 255)) (hq : q = (y * y - 1) * invF (1 + toF dP * (y * y))) (hr : r = toF (rootR (fv q))) :
    decE N = if ¬ r * r = q ∨ (2 ^ 255 ≤ N ∧ r = 0) then none else some (if decide (fv r % 2 = 1) = decide (2 ^ 255 ≤ N) then r else -r, y) := by
  obtain ⟨h1, h2⟩ := root_even q
  rw [← hr] at h1 h2
  unfold decE
  rw [if_pos h]
  simp only
  rw [← hy, ← hq]
  by_cases c : r * r = q
  · rw [decide_eq_true c] at h1
    have h2 := h2 h1
    rw [h1, h2]
    clear hr hy h1 h2 h
    have nn := neg_neg_gen r
    have nz := neg_zero_gen r
    have hz0 : r = 0 → fv r % 2 = 0 := fun z => by rw [z, fv_zero]
    generalize hm : -r = m at *
    obtain ⟨O, hO⟩ : ∃ O : Bool, O = decide (2 ^ 255 ≤ N) := ⟨_, rfl⟩
    have hOp : (2 ^ 255 ≤ N) = (O = true) := by rw [hO]; exact (decide_eq_true_eq).symm
    rw [← hO]
    simp only [hOp]
    by_cases hpar : fv r % 2 = 1
    · have hr0 : ¬ r = 0 := fun z => by rw [hz0 z] at hpar; cases hpar
      have hm0 : ¬ m = 0 := fun z => hr0 (nz ▸ z)
      cases O <;> simp [hpar, c, hr0, hm0, nn, hm]
    · by_cases hr0 : r = 0
      · cases O <;> simp [hpar, c, eq_true hr0, hm]
      · cases O <;> simp [hpar, c, hr0, hm]
  · rw [decide_eq_false c] at h1
    rw [h1, if_pos (.inl rfl), if_pos (.inl c)]
set_option maxRecDepth 100000 in
set_option maxHeartbeats 4000000 in
theorem fRCvDecode_spec (l : List UInt8) (hl : l.length = 32) : FSpec Tryz.prog 40 [.agg (l.map bv)] [] (match decE (byN l) with | none => .tuple [.agg (List.replicate 51 (.int .i64 0)), .bool false] | some (x, y) => .tuple [.agg (rpC ⟨x, y, 1⟩), .bool true]) [] := by
  have hfb := fQFromBytes_spec l hl
  obtain ⟨N, hN⟩ : ∃ N, N = byN l := ⟨_, rfl⟩
  rw [← hN] at hfb ⊢
  have hP := fQP_spec
  have hL := fQLess_spec (N % 2 ^ 255) p25 (Nat.mod_lt _ (by decide)) (by decide)
  have hs0 := rSmall 0 (by decide)
  have hs1 := rSmall 1 (by decide)
  rw [toF_one] at hs1
  rw [toF_zero] at hs0
  have hD := fRCvD_spec
  refine FSpec.of_W fRCvDecode_low (by simp) ?_
  simp only [initEnv]
  simp [hl, List.take_of_length_le]
  refine WO_callP [] rfl rfl hfb (by simp) (by simp) ?_
  simp
  refine WO_callP [] rfl rfl hP (by simp) (by simp) ?_
  simp
  refine WO_callP [] rfl rfl hL (by simp) (by simp) ?_
  simp
  by_cases c1 : N % 2 ^ 255 < p25
  rotate_left
  · rw [decE, if_neg c1]
    have c1' : ¬ N % 57896044618658097711785492504343953926634992332820282019728792003956564819968 < p25 := c1
    simp [c1']
    exact fin_W (by simp)
  have hdec := decE_ref N c1 rfl rfl rfl
  have hyv := toF_lt c1
  obtain ⟨y, hy⟩ : ∃ y, y = toF (N % 2 ^ 255) := ⟨_, rfl⟩
  rw [← hy] at hyv hdec
  rw [← hyv] at c1 ⊢
  have c1' : fv y < p25 := fv_lt y
  rw [hdec]
  clear hdec hP hL hfb
  obtain ⟨q, hq⟩ : ∃ q, q = (y * y - 1) * invF (1 + toF dP * (y * y)) := ⟨_, rfl⟩
  have hrt := fRCvRoot_spec q
  have m3 := rMul (y * y - 1) (invF (1 + toF dP * (y * y)))
  rw [← hq] at m3 ⊢
  have hi := rInv (1 + toF dP * (y * y))
  generalize toF dP = d at *
  obtain ⟨r, hr⟩ : ∃ r, r = toF (rootR (fv q)) := ⟨_, rfl⟩
  rw [← hr] at hrt ⊢
  have i1 : (ints (q17 (fv (r * r))) = ints (q17 (fv q))) = (r * r = q) := by rw [ints_q17 (fv_255 _) (fv_255 _)]; exact propext fv_inj
  have i2 : (ints (q17 (fv r)) = ints (q17 (fv 0))) = (r = 0) := by rw [ints_q17 (fv_255 _) (fv_255 _)]; exact propext fv_inj
  have hat : atF (q17 (fv r)) 0 = some (True, .int .i64 (dig (fv r) 0 : Nat)) := rfl
  have htm : ((dig (fv r) 0 : Nat) : Int).tmod 2 = ((fv r % 2 : Nat) : Int) := by
    have : dig (fv r) 0 % 2 = fv r % 2 := by unfold dig; omega
    rw [← this]; rfl
  have hng := rNeg r
  obtain ⟨O, hO⟩ : ∃ O : Bool, O = decide (2 ^ 255 ≤ N) := ⟨_, rfl⟩
  have hOp : (2 ^ 255 ≤ N) = (O = true) := by rw [hO]; exact (decide_eq_true_eq).symm
  have hO2 : decide (57896044618658097711785492504343953926634992332820282019728792003956564819968 ≤ N) = O := hO.symm
  rw [← hO]
  simp only [hOp]
  obtain ⟨par, hpar⟩ : ∃ par, par = fv r % 2 := ⟨_, rfl⟩
  rw [← hpar] at htm ⊢
  have hp2 : par < 2 := by omega
  clear hO hOp hy hr hpar
  simp [c1', hO2]
  refine WO_callP [] rfl rfl hs1 (by simp) (by simp) ?_
  simp
  refine WO_callP [] rfl rfl (rMul y y) (by simp) (by simp) ?_
  generalize y * y = y2 at *
  simp
  refine WO_callQ rfl (rSub y2 1) (by simp) ?_
  simp
  refine WO_callQ rfl hD (by simp) ?_
  simp
  refine WO_callQ rfl (rMul d y2) (by simp) ?_
  simp
  refine WO_callQ rfl (rAdd 1 (d * y2)) (by simp) ?_
  simp
  refine WO_callQ rfl hi (by simp) ?_
  simp
  refine WO_callQ rfl m3 (by simp) ?_
  simp
  refine WO_callP [] rfl rfl hrt (by simp) (by simp) ?_
  simp
  refine WO_callP [] rfl rfl (rMul r r) (by simp) (by simp) ?_
  simp [i1]
  by_cases c : r * r = q
  rotate_left
  · simp [c]
    exact fin_W (by simp)
  simp [c]
  cases O with
  | false =>
    simp [hat, htm]
    refine WC_dec (fun h => ?_) (fun h => ?_)
    · have h' : par = 1 := by omega
      simp
      refine WO_callP [] rfl rfl hng (by simp) (by simp) ?_
      simp [h']
      exact fin_W (by simp [rpC])
    · have h' : ¬ par = 1 := by omega
      simp [h']
      exact fin_W (by simp [rpC])
  | true =>
    simp
    refine WO_callP [] rfl rfl hs0 (by simp) (by simp) ?_
    simp [i2]
    by_cases c0 : r = 0
    · simp [c0]
      exact fin_W (by simp)
    simp [c0, hat, htm]
    by_cases h' : par = 1
    · have h2 : (par : Int) = 1 := by omega
      simp [h', h2]
      exact fin_W (by simp [rpC])
    · have h2 : ¬ (par : Int) = 1 := by omega
      simp [h', h2]
      refine WO_callP [] rfl rfl hng (by simp) (by simp) ?_
      simp
      exact fin_W (by simp [rpC])
def baseL : List UInt8 := 88 :: List.replicate 31 102
def baseX : Nat := 15112221349535400772501151409588531511454012693041857206046113283949847762202
def baseY : Nat := 46316835694926478169428394003475163141307993866256225615783033603165251855960
theorem baseN : byN baseL = baseY := by decide +kernel
theorem baseX_lt : baseX < p25 := by decide +kernel
theorem baseY_lt : baseY < p25 := by decide +kernel
theorem one_of {K : Type} [Lean.Grind.CommRing K] (d : K) (h : 1 + d * (0 * 0) = 0) : (1 : K) = 0 := by grind
theorem sq_neg_gen {K : Type} [Lean.Grind.CommRing K] (a : K) : -a * -a = a * a := by grind
theorem m1_gen {K : Type} [Lean.Grind.CommRing K] (d y : K) (h : 1 + d * (y * y) = 0) : d * y * y = -1 := by grind
theorem on_gen {K : Type} [Lean.Grind.CommRing K] (d x y i q : K) (h1 : x * x = q) (hq : q = (y * y - 1) * i) (hu : (1 + d * (y * y)) * i = 1) : Cv.E d x y = 0 := by unfold Cv.E; grind
theorem on_q_gen {K : Type} [Lean.Grind.CommRing K] (d x y i : K) (h : Cv.E d x y = 0) (hu : (1 + d * (y * y)) * i = 1) : (y * y - 1) * i = x * x := by unfold Cv.E at h; grind
theorem on_sum_gen {K : Type} [Lean.Grind.CommRing K] (d x y : K) (h : y * y = x * x + 1 + d * x * x * y * y) : Cv.E d x y = 0 := by unfold Cv.E; grind
theorem base_on : Cv.E (toF dP) (toF baseX) (toF baseY) = 0 := by
  have h : toF baseY * toF baseY = toF baseX * toF baseX + 1 + toF dP * toF baseX * toF baseX * toF baseY * toF baseY := by
    apply fv_inj.1
    simp only [fv_add, fv_mul, toF_lt baseX_lt, toF_lt baseY_lt, toF_lt dP_lt, fv_one]
    decide +kernel
  exact on_sum_gen _ _ _ h
theorem under_ne (y : Fp) : 1 + toF dP * (y * y) ≠ 0 := by
  intro h
  have h1 : FP.d * y * y = FP.s * FP.s := by
    rw [FP.hs]
    exact m1_gen (toF dP) y h
  have h2 := FP.hd _ _ h1
  rw [h2] at h
  exact FP.one (one_of _ h)
theorem on_q {x y : Fp} (h : Cv.E (toF dP) x y = 0) : (y * y - 1) * invF (1 + toF dP * (y * y)) = x * x := by
  exact on_q_gen _ _ _ _ h (invF_mul _ (under_ne y))
theorem decE_on {x y : Fp} {N : Nat} (h : decE N = some (x, y)) : Cv.E (toF dP) x y = 0 ∧ N % 2 ^ 255 = fv y ∧ (fv x % 2 = 1 ↔ 2 ^ 255 ≤ N) := by
  by_cases c1 : N % 2 ^ 255 < p25
  rotate_left
  · rw [decE, if_neg c1] at h; cases h
  have hyv := toF_lt c1
  rw [decE_ref N c1 rfl rfl rfl] at h
  generalize toF (N % 2 ^ 255) = Y at *
  have hu := invF_mul _ (under_ne Y)
  obtain ⟨q, hq⟩ : ∃ q, q = (Y * Y - 1) * invF (1 + toF dP * (Y * Y)) := ⟨_, rfl⟩
  rw [← hq] at h
  generalize toF (rootR (fv q)) = r at *
  split at h
  · cases h
  rename_i hn
  have hrq : r * r = q := Classical.not_not.1 fun z => hn (.inl z)
  have hr0 : 2 ^ 255 ≤ N → r ≠ 0 := fun a b => hn (.inr ⟨a, b⟩)
  have hx : x * x = q ∧ y = Y := by
    simp only [Option.some.injEq, Prod.mk.injEq] at h
    refine ⟨?_, h.2.symm⟩
    rw [← h.1, ← hrq]
    split
    · rfl
    · exact sq_neg_gen r
  have hon : Cv.E (toF dP) x y = 0 := by
    rw [hx.2]
    exact on_gen _ _ _ _ q hx.1 hq hu
  refine ⟨hon, by rw [hx.2]; exact hyv.symm, ?_⟩
  simp only [Option.some.injEq, Prod.mk.injEq] at h
  rw [← h.1]
  have hr00 : r = 0 → fv r = 0 := fun z => by rw [z, fv_zero]
  by_cases hO : 2 ^ 255 ≤ N
  · have hnp := neg_par (hr0 hO)
    by_cases hp : fv r % 2 = 1
    · rw [if_pos (by rw [decide_eq_true hp, decide_eq_true hO])]
      exact ⟨fun _ => hO, fun _ => hp⟩
    · rw [if_neg (by rw [decide_eq_false hp, decide_eq_true hO]; simp)]
      exact ⟨fun _ => hO, fun _ => by omega⟩
  · by_cases hp : fv r % 2 = 1
    · have hrn : r ≠ 0 := fun z => by rw [hr00 z] at hp; cases hp
      have hnp := neg_par hrn
      rw [if_neg (by rw [decide_eq_true hp, decide_eq_false hO]; simp)]
      exact ⟨fun z => by omega, fun z => absurd z hO⟩
    · rw [if_pos (by rw [decide_eq_false hp, decide_eq_false hO])]
      exact ⟨fun z => absurd z hp, fun z => absurd z hO⟩
end Go.Proofs.YthgibibeoapfbaaGreat
namespace Go.Proofs.YthgibibeoapfbaaGreat
open Go Go.Fw
attribute [local irreducible] W WX WR WO WS WSr WH WHA WG WC FSpec
attribute [local simp] WS_at_map WSr_at_map loadWP splice_full Int.natCast_inj
theorem ltL_rep8 (m k : Nat) (c : Int) : ltL m (List.replicate k (AV.int .u8 c)) = true := by
  induction k with
  | zero => rfl
  | succ k ih => rw [List.replicate_succ]; simp [ltL, AV.ltI, ih]
attribute [local simp] ltL_rep8
theorem two_roots {K : Type} [Lean.Grind.CommRing K] (F : Cv.Fld K) {r x : K} (h : r * r = x * x) : r = x ∨ r = -x := by
  have h1 : (r - x) * (r + x) = 0 := by grind
  rcases F.nz _ _ h1 with q | q
  · left; grind
  · right; grind
theorem neg_zero_K {K : Type} [Lean.Grind.CommRing K] {x : K} (h : x = 0) : -x = x := by grind
theorem decE_of {x y : Fp} {N : Nat} (hon : Cv.E (toF dP) x y = 0) (hN : N % 2 ^ 255 = fv y) (hp : fv x % 2 = 1 ↔ 2 ^ 255 ≤ N) : decE N = some (x, y) := by
  have c1 : N % 2 ^ 255 < p25 := by rw [hN]; exact fv_lt y
  have hyt : toF (N % 2 ^ 255) = y := by rw [hN, toF_fv]
  have hqx := on_q hon
  rw [decE_ref N c1 hyt.symm hqx.symm rfl]
  have hs := rootR_sq (fv_lt x)
  rw [← fv_mul] at hs
  have hrr : toF (rootR (fv (x * x))) * toF (rootR (fv (x * x))) = x * x := by
    apply fv_inj.1
    rw [fv_mul, toF_lt (rootR_lt _), hs]
  generalize toF (rootR (fv (x * x))) = r at *
  have hx0 : x = 0 → fv x % 2 = 0 := fun z => by rw [z, fv_zero]
  rcases two_roots FP hrr with q | q
  · subst q
    have h0 : ¬ (2 ^ 255 ≤ N ∧ r = 0) := fun z => by have := hp.2 z.1; rw [hx0 z.2] at this; cases this
    rw [if_neg (fun z => z.elim (fun w => w rfl) h0), if_pos (decide_eq_decide.2 hp)]
  · have h0 : ¬ (2 ^ 255 ≤ N ∧ r = 0) := fun z => by
      have hxz : x = 0 := by rw [z.2] at q; exact (neg_zero_gen x) ▸ q.symm
      have := hp.2 z.1; rw [hx0 hxz] at this; cases this
    rw [if_neg (fun z => z.elim (fun w => w hrr) h0)]
    by_cases hxz : x = 0
    · have hrx : r = x := by rw [q]; exact neg_zero_K hxz
      rw [hrx, if_pos (decide_eq_decide.2 hp)]
    · have hnp := neg_par hxz
      rw [← q] at hnp
      rw [if_neg (fun z => ?_), q, neg_neg_gen]
      have := decide_eq_decide.1 z
      rw [← hp] at this
      omega
theorem base_dec : decE (byN baseL) = some (toF baseX, toF baseY) := by
  rw [baseN]
  refine decE_of base_on ?_ ?_
  · rw [toF_lt baseY_lt]; exact Nat.mod_eq_of_lt (Nat.lt_of_lt_of_le baseY_lt (by decide))
  · rw [toF_lt baseX_lt]
    constructor
    · intro h; exact absurd h (by decide)
    · intro h; exact absurd (Nat.lt_of_lt_of_le baseY_lt (by decide)) (Nat.not_lt.2 h)
set_option maxRecDepth 100000 in
theorem fCvBase_spec : FSpec Tryz.prog 54 [] [] (.agg (ptC (atE (toF baseX) (toF baseY)))) [] := by
  have hd := fCvDecode_spec baseL rfl
  rw [base_dec] at hd
  simp only at hd
  generalize atE (toF baseX) (toF baseY) = B at *
  simp [baseL, bv] at hd
  refine FSpec.of_W fCvBase_low (by simp) ?_
  simp only [initEnv]
  simp
  refine W_loop (X := { i : Nat // i ≤ 32 }) (fun i => [(0, .ptr 0 0), (1, .ptr 1 0), (5, .int .i64 i.1)]) (fun i => [some ⟨ptC zeroE, 102, true⟩, some ⟨(List.replicate i.1 (102 : UInt8) ++ List.replicate (32 - i.1) 0).map bv, 22, true⟩]) (fun i => 32 - i.1) ⟨0, by omega⟩ retPost_le ?_ ?_
  · exact cut_w (by simp [ptC, q4, zeroE, wd00, bv])
  · rintro ⟨i, hi⟩
    simp only
    simp [ptC, q4, zeroE, wd00]
    refine WC_dec (fun h => ?_) (fun h => ?_)
    · have w1 : IntKind.i64.wrap ((i : Int) + 1) = (i : Int) + 1 := wrap64s (by omega) (by omega)
      have e2 : List.replicate i (AV.int .u8 102) ++ (List.replicate (32 - i) (AV.int .u8 0)).set 0 (.int .u8 102) = List.replicate (i + 1) (AV.int .u8 102) ++ List.replicate (32 - (i + 1)) (AV.int .u8 0) := by
        rw [show 32 - i = (32 - (i + 1)) + 1 by omega, List.replicate_succ, List.set_cons_zero, List.replicate_succ', List.append_assoc]
        rfl
      simp [e2]
      repeat (refine ⟨by omega, ?_⟩)
      exact ⟨⟨i + 1, by omega⟩, by simp; omega, cut_w (by simp [ptC, q4, zeroE, wd00, bv, e2, w1])⟩
    · have : i = 32 := by omega
      subst this
      simp
      refine WO_callP [] rfl rfl hd (by simp [ptC, q4]) (by simp) ?_
      simp [ptC, q4]
      exact fin_W (by simp [ptC, q4])
set_option maxRecDepth 100000 in
theorem fRCvBase_spec : FSpec Tryz.prog 17 [] [] (.agg (rpC ⟨toF baseX, toF baseY, 1⟩)) [] := by
  have hd := fRCvDecode_spec baseL rfl
  rw [base_dec] at hd
  simp only at hd
  generalize toF baseX = x at *
  generalize toF baseY = y at *
  simp [baseL, bv] at hd
  have hl : (rpC ⟨x, y, 1⟩).length = 51 := by simp [rpC]
  have ht : (rpC ⟨x, y, 1⟩).take 51 = rpC ⟨x, y, 1⟩ := List.take_of_length_le (by omega)
  have hc : idsL (fun _ => false) (rpC ⟨x, y, 1⟩) = true ∧ cleanL (rpC ⟨x, y, 1⟩) = true := by simp [rpC]
  have hlt : ∀ n, ltL n (rpC ⟨x, y, 1⟩) = true := by intro n; simp [rpC]
  generalize rpC ⟨x, y, 1⟩ = R at *
  refine FSpec.of_W fRCvBase_low (by simp) ?_
  simp only [initEnv]
  simp
  refine W_loop (X := { i : Nat // i ≤ 32 }) (fun i => [(0, .ptr 0 0), (1, .ptr 1 0), (2, .int .i64 i.1)]) (fun i => [some ⟨List.replicate 51 (.int .i64 0), 58, true⟩, some ⟨(List.replicate i.1 (102 : UInt8) ++ List.replicate (32 - i.1) 0).map bv, 22, true⟩]) (fun i => 32 - i.1) ⟨0, by omega⟩ retPost_le ?_ ?_
  · exact cut_w (by simp [bv])
  · rintro ⟨i, hi⟩
    simp only
    simp
    refine WC_dec (fun h => ?_) (fun h => ?_)
    · have w1 : IntKind.i64.wrap ((i : Int) + 1) = (i : Int) + 1 := wrap64s (by omega) (by omega)
      have e2 : List.replicate i (AV.int .u8 102) ++ (List.replicate (32 - i) (AV.int .u8 0)).set 0 (.int .u8 102) = List.replicate (i + 1) (AV.int .u8 102) ++ List.replicate (32 - (i + 1)) (AV.int .u8 0) := by
        rw [show 32 - i = (32 - (i + 1)) + 1 by omega, List.replicate_succ, List.set_cons_zero, List.replicate_succ', List.append_assoc]
        rfl
      simp [e2]
      repeat (refine ⟨by omega, ?_⟩)
      exact ⟨⟨i + 1, by omega⟩, by simp; omega, cut_w (by simp [bv, e2, w1])⟩
    · have : i = 32 := by omega
      subst this
      simp
      refine WO_callP [] rfl rfl hd (by simp [hc]) (by simp) ?_
      simp [hl, ht, hc]
      exact fin_W (by simp [hlt])
noncomputable def P0 : Cv.Pt FP := ⟨toF baseX, toF baseY, base_on⟩
theorem rep_at (P : Cv.Pt FP) : Cv.Rep (atE P.x P.y) P := by
  have h1 : ∀ a : Fp, a = a * 1 := fun a => (Cv.tri1 (K := Fp) a).trans (by rw [Fin.one_mul])
  exact ⟨FP.one, h1 _, h1 _, h1 _⟩
theorem rep_none : Cv.Rep noneE (Cv.zero FP) := rep_at (Cv.zero FP)
theorem whole_rep {p : Cv.EP Fp} {P : Cv.Pt FP} (h : Cv.Rep p P) : wholeE p = p := if_neg fun z => h.z z.2.2.1
theorem mul_inv_gen {K : Type} [Lean.Grind.CommRing K] {x X z i : K} (h : x = X * z) (hi : z * i = 1) : x * i = X := by subst h; grind
theorem affR_rep {p : Cv.RP Fp} {P : Cv.Pt FP} (h : Cv.RRep p P) : affR p = (P.x, P.y) := by
  have hi := invF_mul _ h.z
  unfold affR
  rw [mul_inv_gen h.x hi, mul_inv_gen h.y hi]
theorem rrep_at (P : Cv.Pt FP) : Cv.RRep ⟨P.x, P.y, 1⟩ P := by
  have h1 : ∀ a : Fp, a = a * 1 := fun a => (Cv.tri1 (K := Fp) a).trans (by rw [Fin.one_mul])
  exact ⟨FP.one, h1 _, h1 _⟩
theorem rrep_none : Cv.RRep noneR (Cv.zero FP) := by
  unfold noneR
  rw [toF_zero, toF_one]
  exact rrep_at (Cv.zero FP)
theorem bits_step (n k : Nat) (hk : k < 256) : n / 2 ^ (256 - (k + 1)) = n / 2 ^ (256 - k) + n / 2 ^ (256 - k) + n / 2 ^ (255 - k) % 2 := by
  have h1 : 256 - (k + 1) = 255 - k := by omega
  have h2 : 256 - k = (255 - k) + 1 := by omega
  rw [h1, h2, Nat.pow_succ, ← Nat.div_div_eq_div_mul]
  omega
theorem times_rep {p : Cv.EP Fp} {P : Cv.Pt FP} (h : Cv.Rep p P) (n : Nat) (hn : n < 2 ^ 256) : ∀ k, k ≤ 256 → Cv.Rep (timesE p n k) (Cv.smul (n / 2 ^ (256 - k)) P)
  | 0, _ => by
    rw [Nat.sub_zero, Nat.div_eq_of_lt hn]
    exact rep_none
  | k + 1, hk => by
    have ih := times_rep h n hn k (by omega)
    have hd := Cv.sum_rep ih ih
    rw [← Cv.smul_add] at hd
    rw [bits_step n k (by omega)]
    show Cv.Rep (if n / 2 ^ (255 - k) % 2 = 1 then Cv.sumE (toF dP) (Cv.sumE (toF dP) (timesE p n k) (timesE p n k)) p else Cv.sumE (toF dP) (timesE p n k) (timesE p n k)) _
    by_cases c : n / 2 ^ (255 - k) % 2 = 1
    · rw [if_pos c, c]
      exact Cv.sum_rep hd h
    · rw [if_neg c, show n / 2 ^ (255 - k) % 2 = 0 by omega]
      exact hd
theorem timesR_rep {p : Cv.RP Fp} {P : Cv.Pt FP} (h : Cv.RRep p P) (n : Nat) (hn : n < 2 ^ 256) : ∀ k, k ≤ 256 → Cv.RRep (timesR p n (toF dP) k) (Cv.smul (n / 2 ^ (256 - k)) P)
  | 0, _ => by
    rw [Nat.sub_zero, Nat.div_eq_of_lt hn]
    exact rrep_none
  | k + 1, hk => by
    have ih := timesR_rep h n hn k (by omega)
    have hd := Cv.addR_rep ih ih
    rw [← Cv.smul_add] at hd
    rw [bits_step n k (by omega)]
    show Cv.RRep (if n / 2 ^ (255 - k) % 2 = 1 then Cv.addR (toF dP) (Cv.addR (toF dP) (timesR p n (toF dP) k) (timesR p n (toF dP) k)) p else Cv.addR (toF dP) (timesR p n (toF dP) k) (timesR p n (toF dP) k)) _
    by_cases c : n / 2 ^ (255 - k) % 2 = 1
    · rw [if_pos c, c]
      exact Cv.addR_rep hd h
    · rw [if_neg c, show n / 2 ^ (255 - k) % 2 = 0 by omega]
      exact hd
theorem times256 {p : Cv.EP Fp} {P : Cv.Pt FP} (h : Cv.Rep p P) {n : Nat} (hn : n < 2 ^ 256) : Cv.Rep (timesE (wholeE p) n 256) (Cv.smul n P) := by
  have := times_rep h n hn 256 (Nat.le_refl _)
  rw [Nat.sub_self, Nat.pow_zero, Nat.div_one] at this
  rw [whole_rep h]; exact this
theorem timesR256 {p : Cv.RP Fp} {P : Cv.Pt FP} (h : Cv.RRep p P) {n : Nat} (hn : n < 2 ^ 256) : Cv.RRep (timesR p n (toF dP) 256) (Cv.smul n P) := by
  have := timesR_rep h n hn 256 (Nat.le_refl _)
  rw [Nat.sub_self, Nat.pow_zero, Nat.div_one] at this
  exact this
theorem same_gen {K : Type} [Lean.Grind.CommRing K] (F : Cv.Fld K) {a b z w : K} (hz : z ≠ 0) (hw : w ≠ 0) : (a * z * w = b * w * z) ↔ a = b := by
  constructor
  · intro h
    have h2 : (a - b) * (z * w) = 0 := by grind
    rcases F.nz _ _ h2 with q | q
    · grind
    · exact absurd q (F.mul_ne hz hw)
  · rintro rfl; grind
theorem sameE_rep {p q : Cv.EP Fp} {P Q : Cv.Pt FP} (hp : Cv.Rep p P) (hq : Cv.Rep q Q) : sameE p q = true ↔ P = Q := by
  unfold sameE
  rw [whole_rep hp, whole_rep hq, Bool.and_eq_true, decide_eq_true_eq, decide_eq_true_eq, hp.x, hq.x, hp.y, hq.y, same_gen FP hp.z hq.z, same_gen FP hp.z hq.z]
  exact ⟨fun h => Cv.Pt.eq h.1 h.2, fun h => by rw [h]; exact ⟨rfl, rfl⟩⟩
theorem sameR_rep {p q : Cv.RP Fp} {P Q : Cv.Pt FP} (hp : Cv.RRep p P) (hq : Cv.RRep q Q) : sameR p q = true ↔ P = Q := by
  unfold sameR
  rw [Bool.and_eq_true, decide_eq_true_eq, decide_eq_true_eq, hp.x, hq.x, hp.y, hq.y, same_gen FP hp.z hq.z, same_gen FP hp.z hq.z]
  exact ⟨fun h => Cv.Pt.eq h.1 h.2, fun h => by rw [h]; exact ⟨rfl, rfl⟩⟩
end Go.Proofs.YthgibibeoapfbaaGreat
namespace Go.Proofs.YthgibibeoapfbaaGreat
open Go Go.Fw
attribute [local irreducible] W WX WR WO WS WSr WH WHA WG WC FSpec
attribute [local simp] WS_at_map WSr_at_map loadWP splice_full Int.natCast_inj q17_d q17_t q17_t0 q17_d34 q17_t51 q17_s0 q17_s17 q17_s34 hk17
theorem enc32_len (x y : Fp) : (enc32 x y).length = 32 := byL_len _ _
end Go.Proofs.YthgibibeoapfbaaGreat
namespace Go.Proofs.YthgibibeoapfbaaGreat
open Go Go.Fw
attribute [local irreducible] W WX WR WO WS WSr WH WHA WG WC FSpec
attribute [local simp] WS_at_map WSr_at_map loadWP splice_full Int.natCast_inj q17_d q17_t q17_t0 q17_d34 q17_t51 q17_s0 q17_s17 q17_s34 hk17
noncomputable def pB (n : Nat) : Cv.EP Fp := timesE (wholeE (atE (toF baseX) (toF baseY))) n 256
def mB (n : Nat) : Cv.RP Fp := timesR ⟨toF baseX, toF baseY, 1⟩ n (toF dP) 256
theorem pB_rep {n : Nat} (hn : n < 2 ^ 256) : Cv.Rep (pB n) (Cv.smul n P0) := times256 (rep_at P0) hn
theorem mB_rep {n : Nat} (hn : n < 2 ^ 256) : Cv.RRep (mB n) (Cv.smul n P0) := timesR256 (rrep_at P0) hn
theorem bool_eq {a b : Bool} {p : Prop} (h1 : a = true ↔ p) (h2 : b = true ↔ p) : a = b := by
  cases a <;> cases b <;> simp_all
end Go.Proofs.YthgibibeoapfbaaGreat
namespace Go.Proofs.YthgibibeoapfbaaGreat
open Go Go.Fw
attribute [local irreducible] W WX WR WO WS WSr WH WHA WG WC FSpec
def Lq : Nat := 7237005577332262213973186563042994240857116359379907606001950938285454250989
end Go.Proofs.YthgibibeoapfbaaGreat
namespace Go.Proofs.YthgibibeoapfbaaGreat
open Go.Fw
set_option maxRecDepth 100000
set_option maxHeartbeats 4000000
@[reducible] def fOrder : KCode := by
  refine (?f : lowF Tryz.progTables Tryz.f89 [] [] = ?c → annF false [] [] ?c = ?k → KCode) ?h ?i
  case h => cbv; exact rfl
  case i => cbv; exact rfl
  exact fun _ _ => ?k
theorem fOrder_low : lowFunc Tryz.prog 89 [] [] = some ⟨fOrder.bare, [.cell 0 (some 4)], 2⟩ := by kernel_rfl
@[reducible] def fLess : KCode := by
  refine (?f : lowF Tryz.progTables Tryz.f88 [] [] = ?c → annF false [] [] ?c = ?k → KCode) ?h ?i
  case h => cbv; exact rfl
  case i => cbv; exact rfl
  exact fun _ _ => ?k
theorem fLess_low : lowFunc Tryz.prog 88 [] [] = some ⟨fLess.bare, [.tmp 4], 24⟩ := by kernel_rfl
@[reducible] def fOnce : KCode := by
  refine (?f : lowF Tryz.progTables Tryz.f108 [] [] = ?c → annF false [] [] ?c = ?k → KCode) ?h ?i
  case h => cbv; exact rfl
  case i => cbv; exact rfl
  exact fun _ _ => ?k
theorem fOnce_low : lowFunc Tryz.prog 108 [] [] = some ⟨fOnce.bare, [.cell 2 (some 4)], 29⟩ := by kernel_rfl
@[reducible] def fAdd : KCode := by
  refine (?f : lowF Tryz.progTables Tryz.f97 [] [] = ?c → annF false [] [] ?c = ?k → KCode) ?h ?i
  case h => cbv; exact rfl
  case i => cbv; exact rfl
  exact fun _ _ => ?k
theorem fAdd_low : lowFunc Tryz.prog 97 [] [] = some ⟨fAdd.bare, [.cell 4 (some 4)], 27⟩ := by kernel_rfl
@[reducible] def fReduce : KCode := by
  refine (?f : lowF Tryz.progTables Tryz.f57 [] [] = ?c → annF false [] [] ?c = ?k → KCode) ?h ?i
  case h => cbv; exact rfl
  case i => cbv; exact rfl
  exact fun _ _ => ?k
theorem fReduce_low : lowFunc Tryz.prog 57 [] [] = some ⟨fReduce.bare, [.cell 2 (some 4)], 30⟩ := by kernel_rfl
@[reducible] def fBytesL : KCode := by
  refine (?f : lowF Tryz.progTables Tryz.f20 [] [] = ?c → annF false [] [] ?c = ?k → KCode) ?h ?i
  case h => cbv; exact rfl
  case i => cbv; exact rfl
  exact fun _ _ => ?k
theorem fBytesL_low : lowFunc Tryz.prog 20 [] [] = some ⟨fBytesL.bare, [.cell 2 (some 32)], 21⟩ := by kernel_rfl
end Go.Proofs.YthgibibeoapfbaaGreat
namespace Go.Proofs.YthgibibeoapfbaaGreat
open Go Go.Fw
attribute [local irreducible] W WX WR WO WS WSr WH WHA WG WC FSpec
attribute [local simp] WS_at_map WSr_at_map WS_at_q4 WSr_at_q4 WS_at_mx mx_set' WS_at_arr WSr_at_arr loadWP splice_full Int.natCast_inj
theorem q4_Lq : q4 Lq = [.int .u64 6346243789798364141, .int .u64 1503914060200516822, .int .u64 0, .int .u64 1152921504606846976] := by kernel_rfl
theorem fOrder_spec : FSpec Tryz.prog 89 [] [] (.agg (q4 Lq)) [] := by
  refine FSpec.of_W fOrder_low (by simp) ?_
  simp only [initEnv]
  simp
  exact fin_W (by simp [q4_Lq])
theorem fLess_spec (a b : Nat) (ha : a < 2 ^ 256) (hb : b < 2 ^ 256) : FSpec Tryz.prog 88 [.agg (q4 a), .agg (q4 b)] [] (.bool (decide (a < b))) [] := by
  refine FSpec.of_W fLess_low (by simp) ?_
  simp only [initEnv]
  simp
  refine W_loop (X := { i : Nat // i ≤ 4 ∧ a / 2 ^ (64 * i) = b / 2 ^ (64 * i) }) (fun i => [(2, .ptr 0 0), (3, .ptr 1 0), (5, .int .i64 ((i.1 : Int) - 1))]) (fun _ => [some ⟨q4 a, 105, true⟩, some ⟨q4 b, 105, true⟩]) (fun i => i.1) ⟨4, by omega, by omega⟩ retPost_le ?_ ?_
  · exact cut_w (by simp)
  · rintro ⟨i, hi, he⟩
    obtain _ | k := i
    · simp
      refine fin_W ?_
      simp at he
      simp [he]
    · have h4 : k < 4 := by omega
      simp [h4]
      refine ⟨by omega, ?_⟩
      refine WC_ndec (fun h => ?_) (fun h => ?_)
      · simp [h4]
        refine ⟨by omega, ?_⟩
        refine fin_W ?_
        simp
        rw [wd_cmp he (by omega)]
      · simp
        refine ⟨⟨k, by omega, wd_eq he (by omega)⟩, by simp, ?_⟩
        exact cut_w (by simp [wrap64s (n := (k : Int) - 1) (by omega) (by omega)])
def onceN (a : Nat) : Nat := if a < Lq then a else a - Lq
theorem fOnce_spec (a : Nat) (ha : a < 2 ^ 256) : FSpec Tryz.prog 108 [.agg (q4 a)] [] (.agg (q4 (onceN a))) [] := by
  obtain ⟨M, hM⟩ : ∃ M, M = Lq := ⟨Lq, rfl⟩
  have hO := fOrder_spec
  have hM2 : M < 2 ^ 256 := by rw [hM]; decide
  simp only [onceN, ← hM] at hO ⊢
  clear hM
  refine FSpec.of_W fOnce_low (by simp) ?_
  simp only [initEnv]
  simp
  refine WO_callP [] rfl rfl hO (by simp) (by simp) ?_
  simp
  refine WO_callP [] rfl rfl (fLess_spec a M ha hM2) (by simp) (by simp) ?_
  simp
  refine WC_dec (fun h => ?_) (fun h => ?_)
  · simp
    exact fin_W (by simp [h])
  · simp
    refine WO_callP [] rfl rfl hO (by simp) (by simp) ?_
    simp
    refine W_loop (X := { i : Nat // i ≤ 4 }) (fun i => [(1, .ptr 0 0), (2, .ptr 1 0), (3, .ptr 2 0), (4, .int .u64 (bor a M i.1 : Nat)), (11, .agg (q4 M)), (12, .int .i64 i.1)]) (fun i => [some ⟨q4 a, 105, true⟩, some ⟨q4 0, 105, true⟩, some ⟨mx i.1 (a - M) 0, 105, true⟩]) (fun i => 4 - i.1) ⟨0, by omega⟩ retPost_le ?_ ?_
    · exact cut_w (by simp [bor_zero, mx_zero, q4_zero])
    · rintro ⟨i, hi⟩
      simp only
      simp
      refine WC_dec (fun hl => ?_) (fun hl => ?_)
      · have h4 : i < 4 := by omega
        simp [h4, hl]
        refine WO_call rfl (sub64_q a M i (by omega) _) (by simp) ?_
        simp [h4, hl]
        refine ⟨by omega, ⟨i + 1, by omega⟩, by simp; omega, ?_⟩
        exact cut_w (by simp [wrap64s (n := (i : Int) + 1) (by omega) (by omega)])
      · have h4 : i = 4 := by omega
        subst h4
        simp [mx_four]
        exact fin_W (by simp [h])
theorem fAdd_spec (a b : Nat) (hs : a + b < 2 ^ 256) : FSpec Tryz.prog 97 [.agg (q4 a), .agg (q4 b)] [] (.agg (q4 (onceN (a + b)))) [] := by
  refine FSpec.of_W fAdd_low (by simp) ?_
  simp only [initEnv]
  simp
  refine W_loop (X := { i : Nat // i ≤ 4 }) (fun i => [(2, .ptr 0 0), (3, .ptr 1 0), (4, .ptr 2 0), (5, .ptr 3 0), (6, .int .u64 (car a b i.1 : Nat)), (8, .int .i64 i.1)]) (fun i => [some ⟨q4 a, 105, true⟩, some ⟨q4 b, 105, true⟩, some ⟨q4 0, 105, true⟩, some ⟨mx i.1 (a + b) 0, 105, true⟩]) (fun i => 4 - i.1) ⟨0, by omega⟩ retPost_le ?_ ?_
  · exact cut_w (by simp [car_zero, mx_zero, q4_zero])
  · rintro ⟨i, hi⟩
    simp only
    simp
    refine WC_dec (fun hl => ?_) (fun hl => ?_)
    · have h4 : i < 4 := by omega
      simp [h4, hl]
      refine WO_call rfl (add64_q a b i _) (by simp) ?_
      simp [h4, hl]
      refine ⟨by omega, ⟨i + 1, by omega⟩, by simp; omega, ?_⟩
      exact cut_w (by simp [wrap64s (n := (i : Int) + 1) (by omega) (by omega)])
    · have h4 : i = 4 := by omega
      subst h4
      simp [mx_four]
      refine WO_callP [] rfl rfl (fOnce_spec (a + b) hs) (by simp) (by simp) ?_
      simp
      exact fin_W (by simp)
theorem onceN_mod {a : Nat} (h : a < 2 * Lq) : onceN a = a % Lq := by
  simp only [onceN]
  split
  · rw [Nat.mod_eq_of_lt (by assumption)]
  · rw [Nat.mod_eq_sub_mod (by omega), Nat.mod_eq_of_lt (by omega)]
theorem Lq_lt : Lq < 2 ^ 253 := by decide
theorem fAdd_mod (a b : Nat) (ha : a < Lq) (hb : b < Lq) : FSpec Tryz.prog 97 [.agg (q4 a), .agg (q4 b)] [] (.agg (q4 ((a + b) % Lq))) [] := by
  have h := Lq_lt
  have e := fAdd_spec a b (by omega)
  rw [onceN_mod (by omega)] at e
  exact e
theorem red_step (M n k : Nat) : (n / 2 ^ (k + 1) % M + n / 2 ^ (k + 1) % M) % M = 2 * (n / 2 ^ (k + 1)) % M := by
  rw [← Nat.two_mul, Nat.mul_mod, Nat.mod_mod, ← Nat.mul_mod]
theorem red_bit0 (M n k : Nat) (h : ¬ n / 2 ^ k % 2 = 1) : 2 * (n / 2 ^ (k + 1)) % M = n / 2 ^ k % M := by
  have e : n / 2 ^ k = 2 * (n / 2 ^ (k + 1)) := by have := bit_step n k; omega
  rw [e]
theorem red_bit1 (M n k : Nat) (h : n / 2 ^ k % 2 = 1) : (2 * (n / 2 ^ (k + 1)) % M + 1) % M = n / 2 ^ k % M := by
  have e : n / 2 ^ k = 2 * (n / 2 ^ (k + 1)) + 1 := by have := bit_step n k; omega
  rw [e, Nat.mod_add_mod]
theorem byN_top8 (b : List UInt8) : byN b / 2 ^ (8 * b.length) = 0 := by
  rw [Nat.pow_mul]; exact Nat.div_eq_of_lt (byN_lt b)
theorem fReduce_spec (b : List UInt8) (md : Md) (hb : b.length < 2 ^ 40) : FSpec Tryz.prog 57 [.list 1 md (b.map bv)] [] (.agg (q4 (byN b % Lq))) [] := by
  have hA := fAdd_mod
  have hpos : 1 < Lq := by decide
  generalize Lq = M at *
  refine FSpec.of_W fReduce_low (by simp) ?_
  simp only [initEnv]
  simp
  refine W_loop (X := { k : Nat // k ≤ 8 * b.length }) (fun i => [(0, .list 1 md (b.map bv)), (2, .ptr 0 0), (3, .ptr 1 0), (4, .int .i64 ((i.1 : Int) - 1))]) (fun i => [some ⟨q4 0, 105, true⟩, some ⟨q4 (byN b / 2 ^ i.1 % M), 105, true⟩]) (fun i => i.1) ⟨8 * b.length, by omega⟩ retPost_le ?_ ?_
  · have e := byN_top8 b
    have e2 : IntKind.i64.wrap (IntKind.i64.wrap (8 * (b.length : Int)) - 1) = 8 * (b.length : Int) - 1 := by rw [wrap64s (n := 8 * (b.length : Int)) (by omega) (by omega), wrap64s (by omega) (by omega)]
    exact cut_w (by simp [e, e2, q4_zero])
  · rintro ⟨i, hi⟩
    obtain _ | k := i
    · simp
      exact fin_W (by simp)
    · simp
      have hm := Nat.mod_lt (byN b / 2 ^ (k + 1)) (Nat.lt_trans Nat.zero_lt_one hpos)
      have hA1 := hA _ _ hm hm
      rw [red_step] at hA1
      refine WO_callP [] rfl rfl hA1 (by simp) (by simp) ?_
      obtain ⟨q, hq⟩ : ∃ q, q = k / 8 := ⟨_, rfl⟩
      obtain ⟨r, hr⟩ : ∃ r, r = k % 8 := ⟨_, rfl⟩
      have e1 : (k : Int).tdiv 8 = (q : Int) := by rw [hq]; rfl
      have e2 : (k : Int).tmod 8 = (r : Int) := by rw [hr]; rfl
      have e3 := byN_bitD b k
      rw [← hq, ← hr] at e3
      have e7 : q < b.length := by omega
      have e5 : (((b.getD q 0).toNat : Nat) : Int).fdiv (2 ^ min r 8) = (((b.getD q 0).toNat / 2 ^ r : Nat) : Int) := by rw [show min r 8 = r by omega]; exact shr_nat _ _
      have e4 := and1_u8 (a := (b.getD q 0).toNat / 2 ^ r) (Nat.lt_of_le_of_lt (Nat.div_le_self _ _) (UInt8.toNat_lt _))
      rw [e3] at e4
      rw [← e5] at e4
      obtain ⟨y, hy⟩ : ∃ y, y = byN b / 2 ^ k % 2 := ⟨_, rfl⟩
      rw [← hy] at e4
      have e9 : (y : Int) = 1 ↔ y = 1 := by omega
      have e6 : b[q].toNat = (b.getD q 0).toNat := by simp [e7]
      rw [← e6] at e4
      simp [e1, e2, e7, e4, IntKind.bits, wrap64s (n := (q : Int)) (by omega) (by omega)]
      have e8 : ([AV.int .u64 1, .int .u64 0, .int .u64 0, .int .u64 0] : List AV) = q4 1 := by kernel_rfl
      refine WC_dec (fun h => ?_) (fun h => ?_)
      · have h' : byN b / 2 ^ k % 2 = 1 := by omega
        have hA2 := hA _ 1 (Nat.mod_lt (2 * (byN b / 2 ^ (k + 1))) (Nat.lt_trans Nat.zero_lt_one hpos)) hpos
        rw [red_bit1 M _ k h'] at hA2
        simp [e8]
        refine WO_callP [] rfl rfl hA2 (by simp) (by simp) ?_
        simp
        refine ⟨⟨k, by omega⟩, by simp, ?_⟩
        exact cut_w (by simp [wrap64s (n := (k : Int) - 1) (by omega) (by omega)])
      · have h' : ¬ byN b / 2 ^ k % 2 = 1 := by omega
        simp
        refine ⟨⟨k, by omega⟩, by simp, ?_⟩
        rw [red_bit0 M _ k h']
        exact cut_w (by simp [wrap64s (n := (k : Int) - 1) (by omega) (by omega)])
attribute [local simp] WS_at_map WSr_at_map WS_at_q4 WSr_at_q4 WS_at_mx mx_set' WS_at_arr WSr_at_arr loadWP splice_full Int.natCast_inj arr_zero32 fill_zero arr_set upd_fill
theorem fBytesL_spec (n : Nat) : FSpec Tryz.prog 20 [.agg (q4 n)] [] (.agg ((byL 32 n).map bv)) [] := by
  refine FSpec.of_W fBytesL_low (by simp) ?_
  simp only [initEnv]
  simp
  refine W_loop (X := { i : Nat // i ≤ 32 }) (fun i => [(1, .ptr 0 0), (2, .ptr 1 0), (3, .ptr 2 0), (4, .int .i64 i.1)]) (fun i => [some ⟨q4 n, 51, true⟩, some ⟨arr .u8 32 fun _ => 0, 22, true⟩, some ⟨arr .u8 32 (fill i.1 (byt n)), 22, true⟩]) (fun i => 32 - i.1) ⟨0, by omega⟩ retPost_le ?_ ?_
  · exact cut_w (by simp)
  · rintro ⟨i, hi⟩
    simp only
    simp
    refine WC_dec (fun h => ?_) (fun h => ?_)
    · obtain ⟨q, hq⟩ : ∃ q, q = i / 8 := ⟨_, rfl⟩
      obtain ⟨r, hr⟩ : ∃ r, r = i % 8 := ⟨_, rfl⟩
      obtain ⟨s, hs⟩ : ∃ s, s = 8 * r := ⟨_, rfl⟩
      have e1 : (i : Int).tdiv 8 = (q : Int) := by rw [hq]; rfl
      have e2 : (i : Int).tmod 8 = (r : Int) := by rw [hr]; rfl
      have e3 : IntKind.i64.wrap (8 * (r : Int)) = (s : Int) := by rw [wrap64s (by omega) (by omega)]; omega
      have e4 := enc_val n i q s hq (by omega)
      have e5 : (q : Int) < 4 := by omega
      have e6 : q < 4 := by omega
      simp [h, e1, e2, e3, e4, e5, e6, IntKind.bits, wrap64s (n := (q : Int)) (by omega) (by omega)]
      refine ⟨by omega, ⟨i + 1, by omega⟩, by simp; omega, ?_⟩
      exact cut_w (by simp [wrap64s (n := (i : Int) + 1) (by omega) (by omega)])
    · have : i = 32 := by omega
      subst this
      simp [arr_fill, arr_take]
      exact fin_W (by simp [byL_byt])
end Go.Proofs.YthgibibeoapfbaaGreat
namespace Go.Proofs.YthgibibeoapfbaaGreat
open Go Go.Fw
attribute [local irreducible] W WX WR WO WS WSr WH WHA WG WC FSpec
attribute [local simp] WS_at_map WSr_at_map loadWP splice_full Int.natCast_inj q17_d q17_t q17_t0 q17_d34 q17_t51 q17_s0 q17_s17 q17_s34 hk17
theorem add2_rep {p q : Cv.EP Fp} {P Q : Cv.Pt FP} (hp : Cv.Rep p P) (hq : Cv.Rep q Q) : Cv.Rep (addE [p, q]) (Cv.add P Q) := by
  have h1 := Cv.sum_rep rep_none hp
  rw [Cv.zero_add] at h1
  have h2 := Cv.sum_rep h1 hq
  show Cv.Rep (Cv.sumE (toF dP) (Cv.sumE (toF dP) noneE (wholeE p)) (wholeE q)) _
  rw [whole_rep hp, whole_rep hq]
  exact h2
theorem ptL2 (p q : Cv.EP Fp) : ptL [p, q] = ptC p ++ ptC q := by simp [ptL]
end Go.Proofs.YthgibibeoapfbaaGreat
namespace Go.Proofs.YthgibibeoapfbaaGreat
open Go.Fw
set_option maxRecDepth 100000
set_option maxHeartbeats 4000000
@[reducible] def fRot64 : KCode := by
  refine (?f : lowF Tryz.progTables Tryz.f112 [] [] = ?c → annF false [] [] ?c = ?k → KCode) ?h ?i
  case h => cbv; exact rfl
  case i => cbv; exact rfl
  exact fun _ _ => ?k
theorem fRot64_low : lowFunc Tryz.prog 112 [] [] = some ⟨fRot64.bare, [.tmp 4], 17⟩ := by kernel_rfl
@[reducible] def fGNew : KCode := by
  refine (?f : lowF Tryz.progTables Tryz.f90 [] [] = ?c → annF false [] [] ?c = ?k → KCode) ?h ?i
  case h => cbv; exact rfl
  case i => cbv; exact rfl
  exact fun _ _ => ?k
theorem fGNew_low : lowFunc Tryz.prog 90 [] [] = some ⟨fGNew.bare, [.tmp 0], 4⟩ := by kernel_rfl
@[reducible] def fGOf : KCode := by
  refine (?f : lowF Tryz.progTables Tryz.f52 [] [] = ?c → annF false [] [] ?c = ?k → KCode) ?h ?i
  case h => cbv; exact rfl
  case i => cbv; exact rfl
  exact fun _ _ => ?k
theorem fGOf_low : lowFunc Tryz.prog 52 [] [] = some ⟨fGOf.bare, [.cell 2 (some 64)], 19⟩ := by kernel_rfl
@[reducible] def fGWrite : KCode := by
  refine (?f : lowF Tryz.progTables Tryz.f91 [] [] = ?c → annF false [] [] ?c = ?k → KCode) ?h ?i
  case h => cbv; exact rfl
  case i => cbv; exact rfl
  exact fun _ _ => ?k
theorem fGWrite_low : lowFunc Tryz.prog 91 [] [] = some ⟨fGWrite.bare, [], 46⟩ := by kernel_rfl
@[reducible] def fGSum : KCode := by
  refine (?f : lowF Tryz.progTables Tryz.f92 [(4, 0)] [] = ?c → annF false [2] [] ?c = ?k → KCode) ?h ?i
  case h => cbv; exact rfl
  case i => cbv; exact rfl
  exact fun _ _ => ?k
theorem fGSum_low : lowFunc Tryz.prog 92 [(4, 0)] [] = some ⟨fGSum.bare, [.cell 2 (some 64)], 86⟩ := by kernel_rfl
@[reducible] def fGStep : KCode := by
  refine (?f : lowF Tryz.progTables Tryz.f107 [(15, 0)] [(1000015, [3, 5, 6])] = ?c → annF false [] [] ?c = ?k → KCode) ?h ?i
  case h => cbv; exact rfl
  case i => cbv; exact rfl
  exact fun _ _ => ?k
theorem fGStep_low : lowFunc Tryz.prog 107 [(15, 0)] [(1000015, [3, 5, 6])] = some ⟨fGStep.bare, [], 189⟩ := by kernel_rfl
@[reducible] def fGRounds : KCode := by
  refine (?f : lowF Tryz.progTables Tryz.f113 [] [] = ?c → annF false [] [] ?c = ?k → KCode) ?h ?i
  case h => cbv; exact rfl
  case i => cbv; exact rfl
  exact fun _ _ => ?k
theorem fGRounds_low : lowFunc Tryz.prog 113 [] [] = some ⟨fGRounds.bare, [.cell 0 (some 80)], 2⟩ := by kernel_rfl
@[reducible] def fSum3 : KCode := by
  refine (?f : lowF Tryz.progTables Tryz.f33 [] [(32, [0, 1, 2, 3, 4, 5, 6, 7, 8, 9, 10, 11, 12, 15, 16, 17, 18, 19, 21, 22, 23, 24, 25, 26, 27, 28, 13, 14, 20, 29, 30, 31]), (38, [0, 1, 2, 3, 4, 5, 6, 7, 8, 9, 10, 11, 13, 14, 15, 12, 16, 17, 18]), (40, [0, 1, 2, 3, 4, 5, 6, 7, 8, 11, 13, 14, 15, 16, 17, 20, 21, 22, 23, 9, 10, 12, 18, 19, 24, 25]), (42, [0, 1, 2, 3, 5, 6, 7, 8, 9, 10, 11, 12, 13, 14, 15, 16, 17, 18, 19, 21, 22, 23, 24, 25, 26, 27, 28, 29, 4, 20, 30, 31])] = ?c → annF false [] [] ?c = ?k → KCode) ?h ?i
  case h => cbv; exact rfl
  case i => cbv; exact rfl
  exact fun _ _ => ?k
theorem fSum3_low : lowFunc Tryz.prog 33 [] [(32, [0, 1, 2, 3, 4, 5, 6, 7, 8, 9, 10, 11, 12, 15, 16, 17, 18, 19, 21, 22, 23, 24, 25, 26, 27, 28, 13, 14, 20, 29, 30, 31]), (38, [0, 1, 2, 3, 4, 5, 6, 7, 8, 9, 10, 11, 13, 14, 15, 12, 16, 17, 18]), (40, [0, 1, 2, 3, 4, 5, 6, 7, 8, 11, 13, 14, 15, 16, 17, 20, 21, 22, 23, 9, 10, 12, 18, 19, 24, 25]), (42, [0, 1, 2, 3, 5, 6, 7, 8, 9, 10, 11, 12, 13, 14, 15, 16, 17, 18, 19, 21, 22, 23, 24, 25, 26, 27, 28, 29, 4, 20, 30, 31])] = some ⟨fSum3.bare, [.tmp 4], 315⟩ := by kernel_rfl
@[reducible] def fLong : KCode := by
  refine (?f : lowF Tryz.progTables Tryz.f34 [] [] = ?c → annF false [] [] ?c = ?k → KCode) ?h ?i
  case h => cbv; exact rfl
  case i => cbv; exact rfl
  exact fun _ _ => ?k
theorem fLong_low : lowFunc Tryz.prog 34 [] [] = some ⟨fLong.bare, [.cell 0 (some 14)], 6⟩ := by kernel_rfl
@[reducible] def fConst3 : KCode := by
  refine (?f : lowF Tryz.progTables Tryz.f63 [] [] = ?c → annF false [] [] ?c = ?k → KCode) ?h ?i
  case h => cbv; exact rfl
  case i => cbv; exact rfl
  exact fun _ _ => ?k
theorem fConst3_low : lowFunc Tryz.prog 63 [] [] = some ⟨fConst3.bare, [.tmp 4], 10⟩ := by kernel_rfl
@[reducible] def fStart : KCode := by
  refine (?f : lowF Tryz.progTables Tryz.f64 [] [] = ?c → annF false [] [] ?c = ?k → KCode) ?h ?i
  case h => cbv; exact rfl
  case i => cbv; exact rfl
  exact fun _ _ => ?k
theorem fStart_low : lowFunc Tryz.prog 64 [] [] = some ⟨fStart.bare, [.tmp 0], 2⟩ := by kernel_rfl
@[reducible] def fWords : KCode := by
  refine (?f : lowF Tryz.progTables Tryz.f65 [] [] = ?c → annF false [] [] ?c = ?k → KCode) ?h ?i
  case h => cbv; exact rfl
  case i => cbv; exact rfl
  exact fun _ _ => ?k
theorem fWords_low : lowFunc Tryz.prog 65 [] [] = some ⟨fWords.bare, [.tmp 0], 2⟩ := by kernel_rfl
@[reducible] def fSmall3 : KCode := by
  refine (?f : lowF Tryz.progTables Tryz.f66 [] [(1, [0, 1, 2, 3, 5, 6, 7, 8, 11, 12, 13, 14, 4, 9, 10, 15, 16])] = ?c → annF false [] [] ?c = ?k → KCode) ?h ?i
  case h => cbv; exact rfl
  case i => cbv; exact rfl
  exact fun _ _ => ?k
theorem fSmall3_low : lowFunc Tryz.prog 66 [] [(1, [0, 1, 2, 3, 5, 6, 7, 8, 11, 12, 13, 14, 4, 9, 10, 15, 16])] = some ⟨fSmall3.bare, [.tmp 6], 23⟩ := by kernel_rfl
@[reducible] def fCut3 : KCode := by
  refine (?f : lowF Tryz.progTables Tryz.f67 [] [] = ?c → annF false [] [] ?c = ?k → KCode) ?h ?i
  case h => cbv; exact rfl
  case i => cbv; exact rfl
  exact fun _ _ => ?k
theorem fCut3_low : lowFunc Tryz.prog 67 [] [] = some ⟨fCut3.bare, [.tmp 4], 11⟩ := by kernel_rfl
@[reducible] def fBig3 : KCode := by
  refine (?f : lowF Tryz.progTables Tryz.f68 [] [(1, [0, 1, 2, 3, 5, 6, 7, 8, 11, 12, 13, 14, 4, 9, 10, 15, 16, 17])] = ?c → annF false [] [] ?c = ?k → KCode) ?h ?i
  case h => cbv; exact rfl
  case i => cbv; exact rfl
  exact fun _ _ => ?k
theorem fBig3_low : lowFunc Tryz.prog 68 [] [(1, [0, 1, 2, 3, 5, 6, 7, 8, 11, 12, 13, 14, 4, 9, 10, 15, 16, 17])] = some ⟨fBig3.bare, [.tmp 6], 24⟩ := by kernel_rfl
@[reducible] def fTurn3 : KCode := by
  refine (?f : lowF Tryz.progTables Tryz.f98 [] [] = ?c → annF false [] [] ?c = ?k → KCode) ?h ?i
  case h => cbv; exact rfl
  case i => cbv; exact rfl
  exact fun _ _ => ?k
theorem fTurn3_low : lowFunc Tryz.prog 98 [] [] = some ⟨fTurn3.bare, [.tmp 6], 19⟩ := by kernel_rfl
end Go.Proofs.YthgibibeoapfbaaGreat
namespace Go.Proofs.YthgibibeoapfbaaGreat
open Go Go.Fw
attribute [local irreducible] W WX WR WO WS WSr WH WHA WG WC FSpec
attribute [local simp] WS_at_map WSr_at_map WS_at_arr WSr_at_arr loadWP splice_full Int.natCast_inj
theorem fRot64_spec (x : BitVec 64) (n : Nat) (h1 : 1 ≤ n) (h2 : n < 64) : FSpec Tryz.prog 112 [.int .u64 (wn x : Nat), .int .i64 (-(n : Int))] [] (.int .u64 (wn (x.rotateRight n) : Nat)) [] := by
  have e1 := neg_and n 6 h1 h2 (by decide)
  rw [show (2 : Nat) ^ 6 - 1 = 63 from rfl] at e1
  obtain ⟨s, hs⟩ : ∃ s, s = 2 ^ 6 - n := ⟨_, rfl⟩
  rw [← hs] at e1
  have e2 := wx_shl64 x s (by omega)
  have e3 : IntKind.u64.wrap (64 - (s : Int)) = (n : Int) := by
    rw [show (64 : Int) - (s : Int) = ((n : Nat) : Int) by omega, wrapu64]; omega
  have e4 := wx_shr x n
  have e5 : min n 64 = n := by omega
  have e6 := rotr_eq x n h2
  rw [show 64 - n = s by omega] at e6
  refine FSpec.of_W fRot64_low (by simp) ?_
  simp only [initEnv]
  have e1' : bitI .and .u64 (IntKind.u64.wrap (-(n : Int))) 63 = (s : Nat) := e1
  simp [e1', e2, e3, e4, e5, IntKind.bits]
  refine fin_W ?_
  rw [wx_or rfl (by decide), e6]
  simp
theorem k64 : (arr .u64 80 fun i => wn (F64.k i)) = [.int .u64 4794697086780616226, .int .u64 8158064640168781261, .int .u64 13096744586834688815, .int .u64 16840607885511220156, .int .u64 4131703408338449720, .int .u64 6480981068601479193, .int .u64 10538285296894168987, .int .u64 12329834152419229976, .int .u64 15566598209576043074, .int .u64 1334009975649890238, .int .u64 2608012711638119052, .int .u64 6128411473006802146, .int .u64 8268148722764581231, .int .u64 9286055187155687089, .int .u64 11230858885718282805, .int .u64 13951009754708518548, .int .u64 16472876342353939154, .int .u64 17275323862435702243, .int .u64 1135362057144423861, .int .u64 2597628984639134821, .int .u64 3308224258029322869, .int .u64 5365058923640841347, .int .u64 6679025012923562964, .int .u64 8573033837759648693, .int .u64 10970295158949994411, .int .u64 12119686244451234320, .int .u64 12683024718118986047, .int .u64 13788192230050041572, .int .u64 14330467153632333762, .int .u64 15395433587784984357, .int .u64 489312712824947311, .int .u64 1452737877330783856, .int .u64 2861767655752347644, .int .u64 3322285676063803686, .int .u64 5560940570517711597, .int .u64 5996557281743188959, .int .u64 7280758554555802590, .int .u64 8532644243296465576, .int .u64 9350256976987008742, .int .u64 10552545826968843579, .int .u64 11727347734174303076, .int .u64 12113106623233404929, .int .u64 14000437183269869457, .int .u64 14369950271660146224, .int .u64 15101387698204529176, .int .u64 15463397548674623760, .int .u64 17586052441742319658, .int .u64 1182934255886127544, .int .u64 1847814050463011016, .int .u64 2177327727835720531, .int .u64 2830643537854262169, .int .u64 3796741975233480872, .int .u64 4115178125766777443, .int .u64 5681478168544905931, .int .u64 6601373596472566643, .int .u64 7507060721942968483, .int .u64 8399075790359081724, .int .u64 8693463985226723168, .int .u64 9568029438360202098, .int .u64 10144078919501101548, .int .u64 10430055236837252648, .int .u64 11840083180663258601, .int .u64 13761210420658862357, .int .u64 14299343276471374635, .int .u64 14566680578165727644, .int .u64 15097957966210449927, .int .u64 16922976911328602910, .int .u64 17689382322260857208, .int .u64 500013540394364858, .int .u64 748580250866718886, .int .u64 1242879168328830382, .int .u64 1977374033974150939, .int .u64 2944078676154940804, .int .u64 3659926193048069267, .int .u64 4368137639120453308, .int .u64 4836135668995329356, .int .u64 5532061633213252278, .int .u64 6448918945643986474, .int .u64 6902733635092675308, .int .u64 7801388544844847127] := by kernel_rfl
theorem fGRounds_spec : FSpec Tryz.prog 113 [] [] (.agg (arr .u64 80 fun i => wn (F64.k i))) [] := by
  refine FSpec.of_W fGRounds_low (by simp) ?_
  simp only [initEnv]
  simp
  rw [k64]
  exact fin_W (by simp)
end Go.Proofs.YthgibibeoapfbaaGreat
namespace Go.Proofs.YthgibibeoapfbaaGreat
open Go Go.Fw
attribute [local irreducible] W WX WR WO WS WSr WH WHA WG WC FSpec
attribute [local simp] WS_at_map WSr_at_map WS_at_arr WSr_at_arr loadWP splice_full Int.natCast_inj arr_set arr_take
theorem arr0_80 : ([.int .u64 0, .int .u64 0, .int .u64 0, .int .u64 0, .int .u64 0, .int .u64 0, .int .u64 0, .int .u64 0, .int .u64 0, .int .u64 0, .int .u64 0, .int .u64 0, .int .u64 0, .int .u64 0, .int .u64 0, .int .u64 0, .int .u64 0, .int .u64 0, .int .u64 0, .int .u64 0, .int .u64 0, .int .u64 0, .int .u64 0, .int .u64 0, .int .u64 0, .int .u64 0, .int .u64 0, .int .u64 0, .int .u64 0, .int .u64 0, .int .u64 0, .int .u64 0, .int .u64 0, .int .u64 0, .int .u64 0, .int .u64 0, .int .u64 0, .int .u64 0, .int .u64 0, .int .u64 0, .int .u64 0, .int .u64 0, .int .u64 0, .int .u64 0, .int .u64 0, .int .u64 0, .int .u64 0, .int .u64 0, .int .u64 0, .int .u64 0, .int .u64 0, .int .u64 0, .int .u64 0, .int .u64 0, .int .u64 0, .int .u64 0, .int .u64 0, .int .u64 0, .int .u64 0, .int .u64 0, .int .u64 0, .int .u64 0, .int .u64 0, .int .u64 0, .int .u64 0, .int .u64 0, .int .u64 0, .int .u64 0, .int .u64 0, .int .u64 0, .int .u64 0, .int .u64 0, .int .u64 0, .int .u64 0, .int .u64 0, .int .u64 0, .int .u64 0, .int .u64 0, .int .u64 0, .int .u64 0] : List AV) = arr .u64 80 fun _ => 0 := by kernel_rfl
attribute [local simp] arr0_80
theorem xor64 (x y : BitVec 64) : bitI .xor .u64 (wn x : Nat) (wn y : Nat) = (wn (x ^^^ y) : Nat) := wx_xor rfl (by decide) x y
theorem and64 (x y : BitVec 64) : bitI .and .u64 (wn x : Nat) (wn y : Nat) = (wn (x &&& y) : Nat) := wx_and rfl (by decide) x y
theorem shr64_7 (x : BitVec 64) : ((wn x : Nat) : Int).fdiv 128 = (wn (x >>> 7) : Nat) := wx_shr x 7
theorem shr64_6 (x : BitVec 64) : ((wn x : Nat) : Int).fdiv 64 = (wn (x >>> 6) : Nat) := wx_shr x 6
attribute [local simp] xor64 and64 shr64_7 shr64_6 wx_add64 wx_not64
theorem fGStep_spec (s : St8 64) (blk : List UInt8) (md : Md) (hb : blk.length = 128) (o l n : Nat) :
    FSpec Tryz.prog 107 [.ptr 0 0, .list 1 md (blk.map bv)] [some ⟨hC .u64 s 1 o l n, 163, true⟩, none] (.tuple []) [some ⟨hC .u64 (comp F64 s blk) 1 o l n, 163, true⟩, none] := by
  refine FSpec.of_W fGStep_low (by simp) ?_
  simp only [initEnv]
  simp
  refine W_loop (X := { i : Nat // i ≤ 80 }) (fun i => [(0, .ptr 0 0), (1, .list 1 md (blk.map bv)), (4, .ptr 2 0), (21, .int .i64 i.1)]) (fun i => [some ⟨hC .u64 s 1 o l n, 163, true⟩, none, some ⟨arr .u64 80 (wA F64 blk i.1), 167, true⟩]) (fun i => 80 - i.1) ⟨0, by omega⟩ retPost_le ?_ ?_
  · refine cut_w ?_
    simp [hC, wA_zero]
  rintro ⟨i, hi⟩
  simp only
  simp
  refine WC_dec (fun h => ?_) (fun h => ?_)
  · have h64 : i < 80 := by omega
    by_cases h16 : i < 16
    · have hn : nextW F64 blk (wL F64 blk i) i = BitVec.ofNat 64 (beN ((blk.drop (8 * i)).take 8)) := by
        simp only [nextW, if_pos h16]
      have hu := wL_upd F64 blk i
      rw [hn] at hu
      have hz : wA F64 blk i i = 0 := by
        simp only [wA]
        have hl := wL_length F64 blk i
        rw [List.getD_eq_getElem?_getD, List.getElem?_eq_none (by omega)]; rfl
      have hw8 : wn (BitVec.ofNat 64 (beN ((blk.drop (8 * i)).take 8))) = beN ((blk.drop (8 * i)).take 8) := by
        simp only [wn, BitVec.toNat_ofNat]
        refine Nat.mod_eq_of_lt (Nat.lt_of_lt_of_le (beN_lt _) ?_)
        exact Nat.le_trans (Nat.pow_le_pow_right (by decide) (by simp; omega : ((blk.drop (8 * i)).take 8).length ≤ 8)) (by decide)
      rw [hw8] at hu
      simp [show (i : Int) < 16 by omega]
      refine W_loop (X := { k : Nat // k ≤ 8 }) (fun k => [(0, .ptr 0 0), (1, .list 1 md (blk.map bv)), (4, .ptr 2 0), (5, .int .i64 i), (21, .int .i64 i), (26, .int .i64 k.1)]) (fun k => [some ⟨hC .u64 s 1 o l n, 163, true⟩, none, some ⟨arr .u64 80 (upd (wA F64 blk i) i (beN ((blk.drop (8 * i)).take k.1))), 167, true⟩]) (fun k => 8 - k.1) ⟨0, by omega⟩ retPost_le ?_ ?_
      · refine cut_w ?_
        have e : upd (wA F64 blk i) i 0 = wA F64 blk i := by
          funext k; simp only [upd]; split
          · rename_i h; rw [h, hz]
          · rfl
        simp [hC, beN, e]
      rintro ⟨k, hk⟩
      simp only
      simp
      refine WC_dec (fun g => ?_) (fun g => ?_)
      · obtain ⟨q, hq⟩ : ∃ q, q = 8 * i + k := ⟨_, rfl⟩
        have e1 : IntKind.i64.wrap (IntKind.i64.wrap (8 * (i : Int)) + (k : Int)) = (q : Int) := by
          rw [wrap64s (n := 8 * (i : Int)) (by omega) (by omega), wrap64s (by omega) (by omega)]; omega
        have hqb : q < blk.length := by omega
        have gq : blk[q]? = some blk[q] := by simp
        have hs : beN ((blk.drop (8 * i)).take (k + 1)) = beN ((blk.drop (8 * i)).take k) * 256 + blk[q].toNat := by
          rw [List.take_succ_eq_append_getElem (by simp; omega), beN_snoc, List.getElem_drop]
          subst hq; rfl
        have hx := blk[q].toNat_lt
        have hv : beN ((blk.drop (8 * i)).take k) < 2 ^ 56 := by
          refine Nat.lt_of_lt_of_le (beN_lt _) ?_
          exact Nat.le_trans (Nat.pow_le_pow_right (by decide) (by simp; omega : ((blk.drop (8 * i)).take k).length ≤ 7)) (by decide)
        have ev : bitI .or .u64 (IntKind.u64.wrap ((beN ((blk.drop (8 * i)).take k) : Nat) * 256)) (blk[q].toNat : Nat) = (beN ((blk.drop (8 * i)).take (k + 1)) : Nat) := by
          rw [hs]
          generalize beN ((blk.drop (8 * i)).take k) = z at *
          rw [show ((z : Int) * 256) = ((z * 256 : Nat) : Int) by simp, wrapu64, Nat.mod_eq_of_lt (by omega), bitI_or rfl (show z * 256 < 2 ^ 64 by omega) (show blk[q].toNat < 2 ^ 64 by omega)]
          have e3 := shl_or blk[q].toNat z 8 hx
          rw [show (2 : Nat) ^ 8 = 256 from rfl] at e3
          rw [e3]
        have hself : upd (wA F64 blk i) i (beN ((blk.drop (8 * i)).take k)) i = beN ((blk.drop (8 * i)).take k) := by simp [upd]
        have hupd : ∀ v, upd (upd (wA F64 blk i) i (beN ((blk.drop (8 * i)).take k))) i v = upd (wA F64 blk i) i v := by
          intro v; funext j; simp only [upd]; split <;> rfl
        simp [h, h64, e1, gq, hself, ev, hupd, wrap_b64, IntKind.bits]
        refine ⟨by omega, by omega, ⟨k + 1, by omega⟩, by simp; omega, ?_⟩
        exact cut_w (by simp [hC, wrap64s (n := (k : Int) + 1) (by omega) (by omega)])
      · have : k = 8 := by omega
        subst this
        simp [hu]
        refine ⟨⟨i + 1, by omega⟩, by simp; omega, ?_⟩
        exact cut_w (by simp [hC, wrap64s (n := (i : Int) + 1) (by omega) (by omega)])
    · obtain ⟨j16, h16'⟩ : ∃ j, j = i - 16 := ⟨_, rfl⟩
      obtain ⟨j15, h15⟩ : ∃ j, j = i - 15 := ⟨_, rfl⟩
      obtain ⟨j7, h7⟩ : ∃ j, j = i - 7 := ⟨_, rfl⟩
      obtain ⟨j2, h2⟩ : ∃ j, j = i - 2 := ⟨_, rfl⟩
      have e16 : IntKind.i64.wrap ((i : Int) - 16) = (j16 : Int) := by rw [wrap64s (by omega) (by omega)]; omega
      have e15 : IntKind.i64.wrap ((i : Int) - 15) = (j15 : Int) := by rw [wrap64s (by omega) (by omega)]; omega
      have e7 : IntKind.i64.wrap ((i : Int) - 7) = (j7 : Int) := by rw [wrap64s (by omega) (by omega)]; omega
      have e2 : IntKind.i64.wrap ((i : Int) - 2) = (j2 : Int) := by rw [wrap64s (by omega) (by omega)]; omega
      have hu := wL_upd F64 blk i
      simp only [nextW, if_neg h16, ← h16', ← h15, ← h7, ← h2] at hu
      obtain ⟨x16, a16⟩ : ∃ x, x = (wL F64 blk i).getD j16 0 := ⟨_, rfl⟩
      obtain ⟨x15, a15⟩ : ∃ x, x = (wL F64 blk i).getD j15 0 := ⟨_, rfl⟩
      obtain ⟨x7, a7⟩ : ∃ x, x = (wL F64 blk i).getD j7 0 := ⟨_, rfl⟩
      obtain ⟨x2, a2⟩ : ∃ x, x = (wL F64 blk i).getD j2 0 := ⟨_, rfl⟩
      rw [← a16, ← a15, ← a7, ← a2] at hu
      have b16 : wA F64 blk i j16 = wn x16 := by rw [a16]; rfl
      have b15 : wA F64 blk i j15 = wn x15 := by rw [a15]; rfl
      have b7 : wA F64 blk i j7 = wn x7 := by rw [a7]; rfl
      have b2 : wA F64 blk i j2 = wn x2 := by rw [a2]; rfl
      simp [h, h64, show ¬ (i : Int) < 16 by omega, e15, e2, b15, b2, show j15 < 80 by omega, show j2 < 80 by omega, show (j15 : Int) < 80 by omega, show (j2 : Int) < 80 by omega]
      refine WO_callP [] rfl rfl (fRot64_spec x15 1 (by decide) (by decide)) (by simp) (by simp) ?_
      simp
      refine WO_callP [] rfl rfl (fRot64_spec x15 8 (by decide) (by decide)) (by simp) (by simp) ?_
      simp [IntKind.bits]
      refine WO_callP [] rfl rfl (fRot64_spec x2 19 (by decide) (by decide)) (by simp) (by simp) ?_
      simp
      refine WO_callP [] rfl rfl (fRot64_spec x2 61 (by decide) (by decide)) (by simp) (by simp) ?_
      have hu2 : upd (wA F64 blk i) i (wn (x16 + (x15.rotateRight 1 ^^^ x15.rotateRight 8 ^^^ x15 >>> 7) + x7 + (x2.rotateRight 19 ^^^ x2.rotateRight 61 ^^^ x2 >>> 6))) = wA F64 blk (i + 1) := hu
      simp [h, h64, e16, e7, b16, b7, hu2, show j16 < 80 by omega, show j7 < 80 by omega, show (j16 : Int) < 80 by omega, show (j7 : Int) < 80 by omega, IntKind.bits]
      refine ⟨by omega, ⟨i + 1, by omega⟩, by simp; omega, ?_⟩
      exact cut_w (by simp [hC, wrap64s (n := (i : Int) + 1) (by omega) (by omega)])
  have : i = 80 := by omega
  subst this
  simp
  refine WO_callQ rfl fGRounds_spec (by simp) ?_
  simp [hC]
  refine W_loop (X := { i : Nat // i ≤ 80 }) (fun i => [(0, .ptr 0 0), (4, .ptr 2 0), (11, .ptr 3 0), (12, .ptr 4 0), (90, .int .i64 i.1)]) (fun i => [some ⟨hC .u64 s 1 o l n, 163, true⟩, none, some ⟨arr .u64 80 (wA F64 blk 80), 167, true⟩, some ⟨arr .u64 80 (fun i => wn (F64.k i)), 167, true⟩, some ⟨(rnds F64 (wL F64 blk 80) s i.1).cells .u64, 161, true⟩]) (fun i => 80 - i.1) ⟨0, by omega⟩ retPost_le ?_ ?_
  · exact cut_w (by simp [hC, rnds, St8.cells])
  rintro ⟨i, hi⟩
  simp only
  simp
  refine WC_dec (fun h => ?_) (fun h => ?_)
  · have h64 : i < 80 := by omega
    have hr : rnds F64 (wL F64 blk 80) s (i + 1) = rnd F64 (F64.k i) ((wL F64 blk 80).getD i 0) (rnds F64 (wL F64 blk 80) s i) := rfl
    obtain ⟨w, hw⟩ : ∃ w, w = (wL F64 blk 80).getD i 0 := ⟨_, rfl⟩
    have bw : wA F64 blk 80 i = wn w := by rw [hw]; rfl
    obtain ⟨kk, hk⟩ : ∃ kk, kk = F64.k i := ⟨_, rfl⟩
    rw [← hw, ← hk] at hr
    obtain ⟨⟨sa, sb, sc, sd, se, sf, sg, sh⟩, hS⟩ : ∃ st, st = rnds F64 (wL F64 blk 80) s i := ⟨_, rfl⟩
    rw [← hS] at hr ⊢
    simp [St8.cells, h]
    have hr2 : rnds F64 (wL F64 blk 80) s (i + 1) = ⟨sh + (se.rotateRight 14 ^^^ se.rotateRight 18 ^^^ se.rotateRight 41) + ((se &&& sf) ^^^ (~~~se &&& sg)) + kk + w + (sa.rotateRight 28 ^^^ sa.rotateRight 34 ^^^ sa.rotateRight 39) + ((sa &&& sb) ^^^ (sa &&& sc) ^^^ (sb &&& sc)), sa, sb, sc, sd + (sh + (se.rotateRight 14 ^^^ se.rotateRight 18 ^^^ se.rotateRight 41) + ((se &&& sf) ^^^ (~~~se &&& sg)) + kk + w), se, sf, sg⟩ := hr
    clear hr
    refine WO_callP [] rfl rfl (fRot64_spec se 14 (by decide) (by decide)) (by simp) (by simp) ?_
    simp
    refine WO_callP [] rfl rfl (fRot64_spec se 18 (by decide) (by decide)) (by simp) (by simp) ?_
    simp
    refine WO_callP [] rfl rfl (fRot64_spec se 41 (by decide) (by decide)) (by simp) (by simp) ?_
    simp [h, h64, bw, ← hk]
    refine WO_callP [] rfl rfl (fRot64_spec sa 28 (by decide) (by decide)) (by simp) (by simp) ?_
    simp
    refine WO_callP [] rfl rfl (fRot64_spec sa 34 (by decide) (by decide)) (by simp) (by simp) ?_
    simp
    refine WO_callP [] rfl rfl (fRot64_spec sa 39 (by decide) (by decide)) (by simp) (by simp) ?_
    simp
    refine ⟨⟨i + 1, by omega⟩, by simp; omega, ?_⟩
    exact cut_w (by simp [hC, St8.cells, hr2, wrap64s (n := (i : Int) + 1) (by omega) (by omega)])
  have : i = 80 := by omega
  subst this
  have hc : comp F64 s blk = s.add (rnds F64 (wL F64 blk 80) s 80) := rfl
  obtain ⟨t, ht⟩ : ∃ t, t = rnds F64 (wL F64 blk 80) s 80 := ⟨_, rfl⟩
  rw [← ht] at hc ⊢
  rw [hc]
  simp
  refine W_loop (X := { i : Nat // i ≤ 8 }) (fun i => [(0, .ptr 0 0), (12, .ptr 4 0), (172, .int .i64 i.1)]) (fun i => [some ⟨hM .u64 i.1 s t o l n, 163, true⟩, none, none, none, some ⟨t.cells .u64, 161, true⟩]) (fun i => 8 - i.1) ⟨0, by omega⟩ retPost_le ?_ ?_
  · exact cut_w (by simp [hC, hM, St8.cells])
  rintro ⟨i, hi⟩
  simp only
  simp
  refine WC_dec (fun h => ?_) (fun h => ?_)
  · have : i = 0 ∨ i = 1 ∨ i = 2 ∨ i = 3 ∨ i = 4 ∨ i = 5 ∨ i = 6 ∨ i = 7 := by omega
    rcases this with rfl | rfl | rfl | rfl | rfl | rfl | rfl | rfl
    · simp [hM, St8.cells]
      exact ⟨⟨1, by omega⟩, by simp, cut_w (by simp [hM, St8.cells, wrap64s])⟩
    · simp [hM, St8.cells]
      exact ⟨⟨2, by omega⟩, by simp, cut_w (by simp [hM, St8.cells, wrap64s])⟩
    · simp [hM, St8.cells]
      exact ⟨⟨3, by omega⟩, by simp, cut_w (by simp [hM, St8.cells, wrap64s])⟩
    · simp [hM, St8.cells]
      exact ⟨⟨4, by omega⟩, by simp, cut_w (by simp [hM, St8.cells, wrap64s])⟩
    · simp [hM, St8.cells]
      exact ⟨⟨5, by omega⟩, by simp, cut_w (by simp [hM, St8.cells, wrap64s])⟩
    · simp [hM, St8.cells]
      exact ⟨⟨6, by omega⟩, by simp, cut_w (by simp [hM, St8.cells, wrap64s])⟩
    · simp [hM, St8.cells]
      exact ⟨⟨7, by omega⟩, by simp, cut_w (by simp [hM, St8.cells, wrap64s])⟩
    · simp [hM, St8.cells]
      exact ⟨⟨8, by omega⟩, by simp, cut_w (by simp [hM, St8.cells, wrap64s])⟩
  have : i = 8 := by omega
  subst this
  simp
  exact fin_W (by simp [hM, hC, St8.add])
end Go.Proofs.YthgibibeoapfbaaGreat
namespace Go.Proofs.YthgibibeoapfbaaGreat
open Go Go.Fw
attribute [local irreducible] W WX WR WO WS WSr WH WHA WG WC FSpec
attribute [local simp] WS_at_map WSr_at_map WS_at_arr WSr_at_arr loadWP splice_full Int.natCast_inj arr_set arr_take
theorem fGNew_spec : FSpec Tryz.prog 90 [] [] (.ptr 0 0) [hsh F64 .u64 163 1 [] [] 0, dat 64 5 [] []] := by
  refine FSpec.of_W fGNew_low (by simp) ?_
  simp only [initEnv]
  simp
  refine fin_ghostB 0 8 1 5 (by simp) rfl rfl rfl ?_
  refine fin_W ?_
  have e : hC .u64 (hst F64 []) 1 0 0 0 = [.int .u64 7640891576956012808, .int .u64 13503953896175478587, .int .u64 4354685564936845355, .int .u64 11912009170470909681, .int .u64 5840696475078001361, .int .u64 11170449401992604703, .int .u64 2270897969802886507, .int .u64 6620516959819538809, .slice 1 1 0 0 none, .int .u64 0] := by kernel_rfl
  simp [hsh, dat, rst_nil, e]
theorem fGStep_own (s : St8 64) (D : List UInt8) (a o l n : Nat) (h : a + 128 ≤ D.length) :
    FSpec Tryz.prog 107 [.ptr 0 0, .slice 1 1 a 128 none] [some ⟨hC .u64 s 1 o l n, 163, true⟩, some ⟨D.map bv, 5, false⟩] (.tuple []) [some ⟨hC .u64 (comp F64 s ((D.drop a).take 128)) 1 o l n, 163, true⟩, some ⟨D.map bv, 5, false⟩] := by
  refine FSpec.lend (id := 1) (b := ⟨D.map bv, 5, false⟩) (H' := [some ⟨hC .u64 (comp F64 s ((D.drop a).take 128)) 1 o l n, 163, true⟩, none]) rfl (.inl ?_) rfl (by simp) ?_
  · intro hn
    have : D = [] := by simpa using hn
    subst this; simp at h
  · have e := fGStep_spec s ((D.drop a).take 128) ⟨false, false, true⟩ (by simp; omega) o l n
    simp [h]
    simpa using e
theorem fGWrite_spec (st pre b : List UInt8) (n : Nat) (md : Md) (hl : b.length < 2 ^ 46) (hn : n + b.length < 2 ^ 47) : FSpec Tryz.prog 91 [.ptr 0 0, .list 1 md (b.map bv)] [hsh F64 .u64 163 1 st pre n, dat 64 5 st pre] (.tuple [])
    [hsh F64 .u64 163 2 (st ++ b) (pre2 64 st b) (n + b.length), none, dat 64 5 (st ++ b) (pre2 64 st b)] := by
  have hr := rst_len (m := 64) st
  have hap := hst_append F64 st b (by decide)
  have hp2 := pre2_rst (m := 64) (by decide) st b
  have hpl := pre2_len (m := 64) st b
  obtain ⟨l, hlq⟩ : ∃ l, l = rst 64 st ++ b := ⟨_, rfl⟩
  have hll : l.length = (rst 64 st).length + b.length := by rw [hlq]; simp
  refine FSpec.of_W fGWrite_low (by simp) ?_
  simp only [initEnv]
  simp [hsh, dat, hC, List.take_of_length_le]
  have en : IntKind.u64.wrap ((n : Int) + IntKind.u64.wrap (b.length : Int)) = ((n + b.length : Nat) : Int) := by
    rw [wrapu64, Nat.mod_eq_of_lt (by omega), ← Int.natCast_add, wrapu64, Nat.mod_eq_of_lt (by omega)]
  obtain ⟨N, hN⟩ : ∃ N, N = n + b.length := ⟨_, rfl⟩
  rw [← hN] at en
  refine ⟨by omega, ?_⟩
  refine W_loop (X := { k : Nat // 128 * k ≤ l.length }) (fun i => [(0, .ptr 0 0)]) (fun i => [some ⟨hC .u64 (runB F64 i.1 (hst F64 st) l) 2 (128 * i.1) (l.length - 128 * i.1) N, 163, true⟩, none, some ⟨l.map bv, 5, false⟩]) (fun i => l.length - 128 * i.1) ⟨0, by omega⟩ retPost_le ?_ ?_
  · exact cut_w (by simp [hC, hlq, en, runB])
  rintro ⟨k, hk⟩
  simp only
  simp [hC]
  refine WC_dec (fun h => ?_) (fun h => ?_)
  · have h64 : 128 ≤ l.length - 128 * k := by omega
    have hs := fGStep_own (runB F64 k (hst F64 st) l) l (128 * k) (128 * k) (l.length - 128 * k) N (by omega)
    have hk2 : comp F64 (runB F64 k (hst F64 st) l) ((l.drop (128 * k)).take 128) = runB F64 (k + 1) (hst F64 st) l := (runB_succ F64 k (hst F64 st) l).symm
    rw [hk2] at hs
    simp [h64]
    refine ⟨h, ?_⟩
    refine WO_callF [0, 2] rfl rfl hs (by simp) (by simp [hC]) (by simp) ?_
    simp [hC, h64]
    refine ⟨by omega, ?_⟩
    refine ⟨⟨k + 1, by omega⟩, by simp; omega, ?_⟩
    refine cut_rw [0, 1, 2] (by simp) rfl (by simp) ?_
    simp
    omega
  · have hkq : k = l.length / 128 := by omega
    rw [← hlq, show 2 * 64 = 128 from rfl, ← hkq] at hap hpl
    rw [← hlq] at hp2
    have hrl : (rst 64 (st ++ b)).length = l.length - 128 * k := by rw [← hap.2]; simp
    have hd : l.map bv = (pre2 64 st b).map bv ++ (rst 64 (st ++ b)).map bv := by rw [← hp2]; simp
    simp
    refine fin_W ?_
    simp [hap.1, hpl, hrl, hd, hN]
end Go.Proofs.YthgibibeoapfbaaGreat
namespace Go.Proofs.YthgibibeoapfbaaGreat
open Go Go.Fw
attribute [local irreducible] W WX WR WO WS WSr WH WHA WG WC FSpec
attribute [local simp] WS_at_map WSr_at_map WS_at_arr WSr_at_arr loadWP splice_full Int.natCast_inj arr_set arr_take arr_zero64 upd_fill fill_zero
theorem fGSum_spec (st pre : List UInt8) (hn : st.length < 2 ^ 46) : FSpec Tryz.prog 92 [.ptr 0 0] [hsh F64 .u64 163 1 st pre st.length, dat 64 5 st pre] (.agg ((dgst F64 st).map bv)) [hsh F64 .u64 163 1 st pre st.length, dat 64 5 st pre] := by
  have hrl : (rst 64 st).length = st.length % 128 := rst_len st
  refine FSpec.of_W fGSum_low (by simp) ?_
  simp only [initEnv]
  simp [hsh, dat, hC, List.take_of_length_le]
  refine ⟨by omega, ?_⟩
  obtain ⟨r, hr⟩ : ∃ r, r = (rst 64 st).length := ⟨_, rfl⟩
  have hr64 : r < 128 := by omega
  refine W_loop (X := { j : Nat // j ≤ zN 128 112 r }) (fun j => [(0, .ptr 0 0), (2, .ptr 2 0), (3, .ptr 4 0), (4, .slice 1 5 0 (j.1 + 1) none)])
    (fun j => [hsh F64 .u64 163 1 st pre st.length, dat 64 5 st pre, some ⟨arr .u8 64 fun _ => 0, 108, true⟩, some ⟨(rst 64 st).map bv, 5, false⟩, some ⟨hC .u64 (hst F64 st) 3 0 r 0, 163, true⟩, some ⟨(128 :: List.replicate j.1 0 : List UInt8).map bv, 5, false⟩]) (fun j => zN 128 112 r - j.1) ⟨0, by omega⟩ retPost_le ?_ ?_
  · exact cut_w (by simp [hsh, dat, hC, hr])
  rintro ⟨j, hj⟩
  have hz := zN_lt 128 112 r (by decide)
  have hzj := zN_128 r j hr64 hj
  obtain ⟨w, hw⟩ : ∃ w, w = r + (1 + j) := ⟨_, rfl⟩
  obtain ⟨v, hv⟩ : ∃ v, v = w % 128 := ⟨_, rfl⟩
  have e1 : IntKind.i64.wrap ((r : Int) + ((j : Int) + 1)) = (w : Int) := by rw [wrap64s (by omega) (by omega)]; omega
  have e2 : (w : Int).tmod 128 = (v : Int) := by rw [hv]; rfl
  rw [← hw, ← hv] at hzj
  simp only
  simp [hsh, dat, hC, ← hr, e1, e2]
  refine WC_ndec (fun h => ?_) (fun h => ?_)
  · have hjl : j < zN 128 112 r := by omega
    simp
    refine ⟨by omega, ⟨j + 1, by omega⟩, by simp; omega, ?_⟩
    refine cut_rw [0, 1, 2, 3, 4, 6] (by simp) rfl (by simp) ?_
    simp [List.take_of_length_le, List.replicate_succ']
  · have hjz : j = zN 128 112 r := hzj.1 (by omega)
    subst hjz
    obtain ⟨TL, hTL⟩ : ∃ TL, TL = (128 :: List.replicate (zN 128 112 r) 0 ++ List.replicate 8 0 : List UInt8) := ⟨_, rfl⟩
    have hTl : TL.length = zN 128 112 r + 9 := by rw [hTL]; simp
    simp [List.take_of_length_le]
    refine ⟨by omega, ?_⟩
    refine W_loop (X := { i : Nat // i ≤ 8 }) (fun i => [(0, .ptr 0 0), (2, .ptr 2 0), (3, .ptr 4 0), (4, .slice 1 5 0 (TL.length + i.1) none), (41, .int .i64 i.1)])
      (fun i => [hsh F64 .u64 163 1 st pre st.length, dat 64 5 st pre, some ⟨arr .u8 64 fun _ => 0, 108, true⟩, some ⟨(rst 64 st).map bv, 5, false⟩, some ⟨hC .u64 (hst F64 st) 3 0 r 0, 163, true⟩, some ⟨(TL ++ beP (8 * st.length) i.1).map bv, 5, false⟩]) (fun i => 8 - i.1) ⟨0, by omega⟩ retPost_le ?_ ?_
    · refine cut_rw [0, 1, 2, 3, 4, 6] (by simp) rfl (by simp [hTl]) ?_
      simp [hsh, dat, hC, ← hr, hTL, beP]
    rintro ⟨i, hi⟩
    simp only
    simp
    refine WC_dec (fun h => ?_) (fun h => ?_)
    · have e3 : IntKind.u64.wrap (8 * (st.length : Int)) = ((8 * st.length : Nat) : Int) := by
        rw [show 8 * (st.length : Int) = ((8 * st.length : Nat) : Int) by simp, wrapu64, Nat.mod_eq_of_lt (by omega)]
      obtain ⟨x, hx⟩ : ∃ x, x = 8 * st.length := ⟨_, rfl⟩
      obtain ⟨s, hs⟩ : ∃ s, s = 56 - 8 * i := ⟨_, rfl⟩
      have e4 : IntKind.i64.wrap (56 - IntKind.i64.wrap (8 * (i : Int))) = (s : Int) := by
        rw [wrap64s (n := 8 * (i : Int)) (by omega) (by omega), wrap64s (by omega) (by omega)]; omega
      have e5 := beP_byte x i s hs
      rw [← hx] at e3 ⊢
      simp [hsh, dat, hC, e3, e4, e5, IntKind.bits, beP_len]
      refine ⟨by omega, ⟨i + 1, by omega⟩, by simp; omega, ?_⟩
      refine cut_rw [0, 1, 2, 3, 4, 6] (by simp) rfl (by simp [Nat.add_assoc, wrap64s (n := (i : Int) + 1) (by omega) (by omega)]) ?_
      simp [hr, List.take_of_length_le, beP_succ, beP_len]
    have hi8 : i = 8 := by omega
    subst hi8
    obtain ⟨TT, hTT⟩ : ∃ TT, TT = TL ++ beP (8 * st.length) 8 := ⟨_, rfl⟩
    have hTTl : TT.length = TL.length + 8 := by rw [hTT]; simp [beP_len]
    have hTTt : TT = tailB 64 st.length := by
      rw [hTT, hTL, hr, hrl]; simp [tailB, be8, beP]
    have hTm : TL.map bv ++ (beP (8 * st.length) 8).map bv = TT.map bv := by rw [hTT]; simp
    simp [hTm]
    refine W_cut (cut_frz 5 rfl) ?_
    simp [hsh, dat, hC, hTTl, List.take_of_length_le]
    have hw2 := fGWrite_spec st [] TT 0 ⟨false, false, false⟩ (by omega) (by omega)
    simp only [hsh, dat, hC, ← hr, List.nil_append, List.length_nil] at hw2
    refine WO_callF [4, 3] (as' := [.ptr 0 0, .list 1 ⟨false, false, false⟩ (TT.map bv)]) rfl (by simp) hw2 (by simp) (by simp) (by simp) ?_
    simp
    have hdg : dgst F64 st = dgB (hst F64 (st ++ TT)) := by rw [hTTt]; rfl
    generalize hst F64 (st ++ TT) = S at *
    rw [hdg]
    refine W_loop (X := { i : Nat // i ≤ 8 }) (fun i => [(2, .ptr 2 0), (6, .ptr 7 0), (64, .agg (S.cells .u64)), (65, .int .i64 i.1)])
      (fun i => [hsh F64 .u64 163 1 st pre st.length, dat 64 5 st pre, some ⟨arr .u8 64 fun _ => 0, 108, true⟩, none, none, none, none, some ⟨arr .u8 64 (fill (8 * i.1) (dgN S)), 108, true⟩]) (fun i => 8 - i.1) ⟨0, by omega⟩ retPost_le ?_ ?_
    · exact cut_w (by simp [hsh, dat, hC, St8.cells, hr])
    rintro ⟨i, hi⟩
    simp only
    simp
    refine WC_dec (fun h => ?_) (fun h => ?_)
    · have h8 : i < 8 := by omega
      simp [cells_at .u64 S h8, h]
      refine W_loop (X := { k : Nat // k ≤ 8 }) (fun k => [(2, .ptr 2 0), (6, .ptr 7 0), (7, .int .i64 i), (8, .int .u64 (wn (S.at i) : Nat)), (64, .agg (S.cells .u64)), (65, .int .i64 i), (69, .int .i64 k.1)])
        (fun k => [hsh F64 .u64 163 1 st pre st.length, dat 64 5 st pre, some ⟨arr .u8 64 fun _ => 0, 108, true⟩, none, none, none, none, some ⟨arr .u8 64 (fill (8 * i + k.1) (dgN S)), 108, true⟩]) (fun k => 8 - k.1) ⟨0, by omega⟩ retPost_le ?_ ?_
      · exact cut_w (by simp [hsh, dat, hC, St8.cells, hr])
      rintro ⟨k, hk⟩
      simp only
      simp
      refine WC_dec (fun g => ?_) (fun g => ?_)
      · obtain ⟨p, hp⟩ : ∃ p, p = 8 * i + k := ⟨_, rfl⟩
        obtain ⟨s, hs⟩ : ∃ s, s = 56 - 8 * k := ⟨_, rfl⟩
        have e3 : IntKind.i64.wrap (IntKind.i64.wrap (8 * (i : Int)) + (k : Int)) = (p : Int) := by
          rw [wrap64s (n := 8 * (i : Int)) (by omega) (by omega), wrap64s (by omega) (by omega)]; omega
        have e4 : IntKind.i64.wrap (56 - IntKind.i64.wrap (8 * (k : Int))) = (s : Int) := by
          rw [wrap64s (n := 8 * (k : Int)) (by omega) (by omega), wrap64s (by omega) (by omega)]; omega
        have e5 : IntKind.u8.wrap (((wn (S.at i) : Nat) : Int).fdiv (2 ^ (min s 64))) = (dgN S p : Nat) := by
          rw [show min s 64 = s by omega, shr_nat, wrapu8]
          simp only [dgN, show 64 / 8 = 8 from rfl, show p / 8 = i by omega, show p % 8 = k by omega]
          rw [show 64 - 8 - 8 * k = s by omega]
        rw [← hp]
        simp [e3, e4, e5, IntKind.bits, show p < 64 by omega]
        refine ⟨by omega, by omega, ⟨k + 1, by omega⟩, by simp; omega, ?_⟩
        exact cut_w (by simp [hsh, dat, hC, ← hr, hp, Nat.add_assoc, wrap64s (n := (k : Int) + 1) (by omega) (by omega)])
      · have : k = 8 := by omega
        subst this
        simp
        refine ⟨⟨i + 1, by omega⟩, by simp; omega, ?_⟩
        exact cut_w (by simp [hsh, dat, hC, ← hr, Nat.mul_add, wrap64s (n := (i : Int) + 1) (by omega) (by omega)])
    · have : i = 8 := by omega
      subst this
      simp [arr_fill]
      refine fin_W ?_
      rw [← dgB_arr]
      simp [hsh, dat, hC, ← hr]
end Go.Proofs.YthgibibeoapfbaaGreat
namespace Go.Proofs.YthgibibeoapfbaaGreat
open Go Go.Fw
attribute [local irreducible] W WX WR WO WS WSr WH WHA WG WC FSpec
attribute [local simp] WS_at_map WSr_at_map WS_at_arr WSr_at_arr loadWP splice_full Int.natCast_inj arr_set arr_take arr_zero64 upd_fill fill_zero
theorem fGOf_spec (l : List (Md × List UInt8)) (md : Md) (hl : (allB l).length < 2 ^ 45) (hn : l.length < 2 ^ 45) : FSpec Tryz.prog 52 [.list 1 md (l.map lsV)] [] (.agg ((dgst F64 (allB l)).map bv)) [] := by
  refine FSpec.of_W fGOf_low (by simp) ?_
  simp only [initEnv]
  simp
  refine WO_callF [] rfl rfl fGNew_spec (by simp) (by simp) (by simp) ?_
  simp [hsh, dat, hC]
  refine W_loop (X := { x : Nat × List UInt8 // x.1 ≤ l.length }) (fun x => [(2, .ptr 0 0), (3, .ptr 1 0), (7, .list 1 md (l.map lsV)), (8, .int .i64 l.length), (9, .int .i64 x.1.1)])
    (fun x => [some ⟨arr .u8 64 fun _ => 0, 108, true⟩, some ⟨hC .u64 (hst F64 (allB (l.take x.1.1))) 2 x.1.2.length (rst 64 (allB (l.take x.1.1))).length (allB (l.take x.1.1)).length, 163, true⟩, dat 64 5 (allB (l.take x.1.1)) x.1.2]) (fun x => l.length - x.1.1) ⟨(0, []), by simp⟩ retPost_le ?_ ?_
  · exact cut_w (by simp [hsh, dat, hC, allB])
  rintro ⟨⟨i, pre⟩, hi⟩
  have hle := allB_le l i
  simp only at hi ⊢
  simp
  refine WC_dec (fun h => ?_) (fun h => ?_)
  · have hil : i < l.length := by omega
    have hc : l[i]? = some l[i] := by simp
    have ht := allB_take l i hil
    have hle2 := allB_le l (i + 1)
    rw [ht, List.length_append] at hle2
    have hw := fGWrite_spec (allB (l.take i)) pre l[i].2 (allB (l.take i)).length l[i].1 (by omega) (by omega)
    rw [← ht] at hw
    obtain ⟨st, hst⟩ : ∃ st, st = allB (l.take i) := ⟨_, rfl⟩
    rw [← hst] at hw ht hle2 ⊢
    simp only [hsh, dat, hC] at hw
    simp [dat, hC, hc, lsV]
    have hlen : (allB (l.take (i + 1))).length = st.length + l[i].2.length := by rw [ht]; simp
    refine ⟨hil, ?_⟩
    refine WO_callF [1, 2] (as' := [.ptr 0 0, .list 1 l[i].1 (l[i].2.map bv)]) rfl (by simp) hw (by simp) (by simp) (by simp) ?_
    simp
    refine ⟨⟨(i + 1, pre2 64 st l[i].2), by simp; omega⟩, by simp; omega, ?_⟩
    refine cut_rw [0, 1, 3] (by simp) rfl (by simp [wrap64s (n := (i : Int) + 1) (by omega) (by omega)]) ?_
    simp [hlen]
  · have : i = l.length := by omega
    subst this
    have hs := fGSum_spec (allB l) pre (by omega)
    simp only [hsh, dat, hC] at hs
    simp [hC, dat]
    refine WO_callF [1, 2] rfl rfl hs (by simp) (by simp) (by simp) ?_
    simp [List.take_of_length_le]
    exact fin_W (by simp)
end Go.Proofs.YthgibibeoapfbaaGreat
namespace Go.Proofs.YthgibibeoapfbaaGreat
open Go.Fw
set_option maxRecDepth 100000
set_option maxHeartbeats 4000000
@[reducible] def fDecode : KCode := by
  refine (?f : lowF Tryz.progTables Tryz.f51 [] [] = ?c → annF false [] [] ?c = ?k → KCode) ?h ?i
  case h => cbv; exact rfl
  case i => cbv; exact rfl
  exact fun _ _ => ?k
theorem fDecode_low : lowFunc Tryz.prog 51 [] [] = some ⟨fDecode.bare, [.cell 2 (some 4), .tmp 3], 31⟩ := by kernel_rfl
@[reducible] def fRLess : KCode := by
  refine (?f : lowF Tryz.progTables Tryz.f46 [] [] = ?c → annF false [] [] ?c = ?k → KCode) ?h ?i
  case h => cbv; exact rfl
  case i => cbv; exact rfl
  exact fun _ _ => ?k
theorem fRLess_low : lowFunc Tryz.prog 46 [] [] = some ⟨fRLess.bare, [.cell 4 (some 4)], 47⟩ := by kernel_rfl
@[reducible] def fBelow2 : KCode := by
  refine (?f : lowF Tryz.progTables Tryz.f44 [] [] = ?c → annF false [] [] ?c = ?k → KCode) ?h ?i
  case h => cbv; exact rfl
  case i => cbv; exact rfl
  exact fun _ _ => ?k
theorem fBelow2_low : lowFunc Tryz.prog 44 [] [] = some ⟨fBelow2.bare, [.tmp 4], 24⟩ := by kernel_rfl
@[reducible] def fBelow : KCode := by
  refine (?f : lowF Tryz.progTables Tryz.f61 [] [] = ?c → annF false [] [] ?c = ?k → KCode) ?h ?i
  case h => cbv; exact rfl
  case i => cbv; exact rfl
  exact fun _ _ => ?k
theorem fBelow_low : lowFunc Tryz.prog 61 [] [] = some ⟨fBelow.bare, [.tmp 2], 6⟩ := by kernel_rfl
@[reducible] def fL : KCode := by
  refine (?f : lowF Tryz.progTables Tryz.f45 [] [] = ?c → annF false [] [] ?c = ?k → KCode) ?h ?i
  case h => cbv; exact rfl
  case i => cbv; exact rfl
  exact fun _ _ => ?k
theorem fL_low : lowFunc Tryz.prog 45 [] [] = some ⟨fL.bare, [.cell 0 (some 4)], 2⟩ := by kernel_rfl
@[reducible] def fDouble : KCode := by
  refine (?f : lowF Tryz.progTables Tryz.f47 [] [] = ?c → annF false [] [] ?c = ?k → KCode) ?h ?i
  case h => cbv; exact rfl
  case i => cbv; exact rfl
  exact fun _ _ => ?k
theorem fDouble_low : lowFunc Tryz.prog 47 [] [] = some ⟨fDouble.bare, [.cell 4 (some 4)], 34⟩ := by kernel_rfl
@[reducible] def fBits : KCode := by
  refine (?f : lowF Tryz.progTables Tryz.f48 [] [] = ?c → annF false [] [] ?c = ?k → KCode) ?h ?i
  case h => cbv; exact rfl
  case i => cbv; exact rfl
  exact fun _ _ => ?k
theorem fBits_low : lowFunc Tryz.prog 48 [] [] = some ⟨fBits.bare, [.tmp 2], 26⟩ := by kernel_rfl
@[reducible] def fRReduce : KCode := by
  refine (?f : lowF Tryz.progTables Tryz.f23 [] [] = ?c → annF false [] [] ?c = ?k → KCode) ?h ?i
  case h => cbv; exact rfl
  case i => cbv; exact rfl
  exact fun _ _ => ?k
theorem fRReduce_low : lowFunc Tryz.prog 23 [] [] = some ⟨fRReduce.bare, [.cell 2 (some 4)], 22⟩ := by kernel_rfl
@[reducible] def fAddL : KCode := by
  refine (?f : lowF Tryz.progTables Tryz.f21 [] [] = ?c → annF false [] [] ?c = ?k → KCode) ?h ?i
  case h => cbv; exact rfl
  case i => cbv; exact rfl
  exact fun _ _ => ?k
theorem fAddL_low : lowFunc Tryz.prog 21 [] [] = some ⟨fAddL.bare, [.cell 4 (some 4)], 43⟩ := by kernel_rfl
@[reducible] def fMulL : KCode := by
  refine (?f : lowF Tryz.progTables Tryz.f22 [] [] = ?c → annF false [] [] ?c = ?k → KCode) ?h ?i
  case h => cbv; exact rfl
  case i => cbv; exact rfl
  exact fun _ _ => ?k
theorem fMulL_low : lowFunc Tryz.prog 22 [] [] = some ⟨fMulL.bare, [.cell 4 (some 4)], 26⟩ := by kernel_rfl
@[reducible] def fSgVerify_r0 : List (DOper × List Nat) := [
  o1 3 (.box 29 (.t 0)) [0],
  o1 4 (.box 26 (.t 1)) [1],
  o1 6 (.mv (.k (.int .i64 0))) [6]]
@[reducible] def fSgVerify_r1 : List (DOper × List Nat) := [
  o1 13 (.load (some 32) (.t 3)) [],
  o1 14 (.call 50 [(.t 13)]) [13],
  o1 12 (.mv (.t 14)) [14],
  o1 15 (.extract 0 (.t 12)) [],
  o1 16 (.extract 1 (.t 12)) [12],
  o1 7 (.alloc 102 [(.int .u64 0), (.int .u64 0), (.int .u64 0), (.int .u64 0), (.int .u64 0), (.int .u64 0), (.int .u64 0), (.int .u64 0), (.int .u64 0), (.int .u64 0), (.int .u64 0), (.int .u64 0), (.int .u64 0), (.int .u64 0), (.int .u64 0), (.int .u64 0)]) [],
  (⟨⟨none, none, .store 16 (.t 7) (.t 15)⟩, 0, []⟩, [15]),
  o1 8 (.mv (.t 16)) [16]]
@[reducible] def fSgVerify_r2 : List (DOper × List Nat) := [
  o1 17 (.mv (.t 8)) [8],
  o1 18 (.bin false .neq (.t 17) (.k (.int .i64 0))) [17]]
@[reducible] def fSgVerify_r3 : List (DOper × List Nat) := [
  o1 6 (.mv (.k (.int .i64 9))) []]
@[reducible] def fSgVerify_k0 : KCode := (.keep [] (.seq (.reg fSgVerify_r3) .ret))
@[reducible] def fSgVerify_r4 : List (DOper × List Nat) := [
  o1 20 (.slA 1 64 (.t 4) none (some (.k (.int .i64 32))) none) [],
  o1 21 (.s2a 32 1 (.t 20)) [20],
  o1 22 (.load (some 32) (.t 21)) [21],
  o1 23 (.call 50 [(.t 22)]) [22],
  o1 19 (.mv (.t 23)) [23],
  o1 24 (.extract 0 (.t 19)) [],
  o1 25 (.extract 1 (.t 19)) [19],
  o1 9 (.alloc 102 [(.int .u64 0), (.int .u64 0), (.int .u64 0), (.int .u64 0), (.int .u64 0), (.int .u64 0), (.int .u64 0), (.int .u64 0), (.int .u64 0), (.int .u64 0), (.int .u64 0), (.int .u64 0), (.int .u64 0), (.int .u64 0), (.int .u64 0), (.int .u64 0)]) [],
  (⟨⟨none, none, .store 16 (.t 9) (.t 24)⟩, 0, []⟩, [24]),
  o1 8 (.mv (.t 25)) [25]]
@[reducible] def fSgVerify_r5 : List (DOper × List Nat) := [
  o1 26 (.mv (.t 8)) [8],
  o1 27 (.bin false .neq (.t 26) (.k (.int .i64 0))) [26]]
@[reducible] def fSgVerify_r6 : List (DOper × List Nat) := [
  o1 6 (.mv (.k (.int .i64 9))) []]
@[reducible] def fSgVerify_k1 : KCode := (.keep [] (.seq (.reg fSgVerify_r6) .ret))
@[reducible] def fSgVerify_r7 : List (DOper × List Nat) := [
  o1 29 (.slA 1 64 (.t 4) (some (.k (.int .i64 32))) none none) [],
  o1 30 (.s2a 32 1 (.t 29)) [29],
  o1 31 (.load (some 32) (.t 30)) [30],
  o1 32 (.call 51 [(.t 31)]) [31],
  o1 28 (.mv (.t 32)) [32],
  o1 33 (.extract 0 (.t 28)) [],
  o1 34 (.extract 1 (.t 28)) [28],
  o1 10 (.alloc 105 [(.int .u64 0), (.int .u64 0), (.int .u64 0), (.int .u64 0)]) [],
  (⟨⟨none, none, .store 4 (.t 10) (.t 33)⟩, 0, []⟩, [33]),
  o1 8 (.mv (.t 34)) [34]]
@[reducible] def fSgVerify_r8 : List (DOper × List Nat) := [
  o1 35 (.mv (.t 8)) [8],
  o1 36 (.bin false .neq (.t 35) (.k (.int .i64 0))) [35]]
@[reducible] def fSgVerify_r9 : List (DOper × List Nat) := [
  o1 6 (.mv (.k (.int .i64 9))) []]
@[reducible] def fSgVerify_k2 : KCode := (.keep [] (.seq (.reg fSgVerify_r9) .ret))
@[reducible] def fSgVerify_r10 : List (DOper × List Nat) := [
  o1 37 (.slA 1 64 (.t 4) none (some (.k (.int .i64 32))) none) [4],
  o2 38 1 (.slA 1 32 (.t 3) none none none) [3],
  o2 39 2 (.buildF 35 1 [(.list 1 ⟨true, true, false⟩ []), (.list 1 ⟨true, true, false⟩ [])] [(0, 1, (.t 37)), (1, 1, (.t 38))]) [37, 38],
  o2 40 3 (.mv (.t 2)) [2],
  o2 41 4 (.appF 35 1 24 (.t 39) (.t 40)) [39, 40],
  o2 42 5 (.callP 52 [(.t 41)]) [41],
  (⟨⟨(some 11), none, .alloc 108 [(.int .u8 0), (.int .u8 0), (.int .u8 0), (.int .u8 0), (.int .u8 0), (.int .u8 0), (.int .u8 0), (.int .u8 0), (.int .u8 0), (.int .u8 0), (.int .u8 0), (.int .u8 0), (.int .u8 0), (.int .u8 0), (.int .u8 0), (.int .u8 0), (.int .u8 0), (.int .u8 0), (.int .u8 0), (.int .u8 0), (.int .u8 0), (.int .u8 0), (.int .u8 0), (.int .u8 0), (.int .u8 0), (.int .u8 0), (.int .u8 0), (.int .u8 0), (.int .u8 0), (.int .u8 0), (.int .u8 0), (.int .u8 0), (.int .u8 0), (.int .u8 0), (.int .u8 0), (.int .u8 0), (.int .u8 0), (.int .u8 0), (.int .u8 0), (.int .u8 0), (.int .u8 0), (.int .u8 0), (.int .u8 0), (.int .u8 0), (.int .u8 0), (.int .u8 0), (.int .u8 0), (.int .u8 0), (.int .u8 0), (.int .u8 0), (.int .u8 0), (.int .u8 0), (.int .u8 0), (.int .u8 0), (.int .u8 0), (.int .u8 0), (.int .u8 0), (.int .u8 0), (.int .u8 0), (.int .u8 0), (.int .u8 0), (.int .u8 0), (.int .u8 0), (.int .u8 0)]⟩, 6, [4, 1, 0]⟩, []),
  (⟨⟨none, none, .store 64 (.t 11) (.t 42)⟩, 7, []⟩, [42])]
@[reducible] def fSgVerify_r11 : List (DOper × List Nat) := [
  o2 44 1 (.load (some 4) (.t 10)) [10],
  o2 46 3 (.load (some 16) (.t 9)) [9],
  o2 47 4 (.load (some 16) (.t 7)) [7],
  o2 48 5 (.slA 1 64 (.t 11) none none none) [11],
  (⟨⟨(some 43), none, .call 54 []⟩, 0, [5, 4, 3, 1]⟩, []),
  (⟨⟨(some 45), none, .call 55 [(.t 43), (.t 44)]⟩, 2, [5, 4, 3]⟩, [43, 44]),
  (⟨⟨(some 49), none, .call 57 [(.t 48)]⟩, 6, [4, 3]⟩, [48]),
  (⟨⟨(some 50), none, .call 55 [(.t 47), (.t 49)]⟩, 7, [3]⟩, [47, 49]),
  o2 51 8 (.buildF 102 16 [(.int .u64 0), (.int .u64 0), (.int .u64 0), (.int .u64 0), (.int .u64 0), (.int .u64 0), (.int .u64 0), (.int .u64 0), (.int .u64 0), (.int .u64 0), (.int .u64 0), (.int .u64 0), (.int .u64 0), (.int .u64 0), (.int .u64 0), (.int .u64 0), (.int .u64 0), (.int .u64 0), (.int .u64 0), (.int .u64 0), (.int .u64 0), (.int .u64 0), (.int .u64 0), (.int .u64 0), (.int .u64 0), (.int .u64 0), (.int .u64 0), (.int .u64 0), (.int .u64 0), (.int .u64 0), (.int .u64 0), (.int .u64 0)] [(0, 16, (.t 46)), (16, 16, (.t 50))]) [46, 50],
  o2 52 9 (.call 56 [(.t 51)]) [51],
  o2 53 10 (.call 53 [(.t 45), (.t 52)]) [45, 52],
  o2 54 11 (.un .not (.t 53)) [53]]
@[reducible] def fSgVerify_r12 : List (DOper × List Nat) := [
  o1 6 (.mv (.k (.int .i64 9))) []]
@[reducible] def fSgVerify_k3 : KCode := (.keep [] (.seq (.reg fSgVerify_r12) .ret))
@[reducible] def fSgVerify_r13 : List (DOper × List Nat) := [
  o1 6 (.mv (.k (.int .i64 0))) []]
@[reducible] def fSgVerify : KCode := (.seq (.reg fSgVerify_r0) (.seq (.reg fSgVerify_r1) (.seq (.seq (.reg fSgVerify_r2) (.cond (.t 18) fSgVerify_k0 (.kill [18] .skip))) (.kill [6, 8, 17, 18] (.seq (.reg fSgVerify_r4) (.seq (.seq (.reg fSgVerify_r5) (.cond (.t 27) fSgVerify_k1 (.kill [27] .skip))) (.kill [6, 8, 26, 27] (.seq (.reg fSgVerify_r7) (.seq (.seq (.reg fSgVerify_r8) (.cond (.t 36) fSgVerify_k2 (.kill [36] .skip))) (.kill [6, 8, 35, 36] (.seq (.draw fSgVerify_r10) (.seq (.seq (.draw fSgVerify_r11) (.cond (.t 54) fSgVerify_k3 (.keep [] .skip))) (.keep [] (.seq (.reg fSgVerify_r13) .ret))))))))))))))
@[reducible] def fSgVerify_rs : List IRes := [.tmp 6]
theorem fSgVerify_low : lowFunc Tryz.prog 28 [(10, 5), (10, 4)] [(11, [1, 3, 4, 5, 0, 2, 6, 7, 8, 9, 10, 11])] = some ⟨fSgVerify.bare, fSgVerify_rs, 55⟩ := by kernel_rfl
@[reducible] def fRSgHash : KCode := by
  refine (?f : lowF Tryz.progTables Tryz.f19 [] [] = ?c → annF false [] [] ?c = ?k → KCode) ?h ?i
  case h => cbv; exact rfl
  case i => cbv; exact rfl
  exact fun _ _ => ?k
theorem fRSgHash_low : lowFunc Tryz.prog 19 [] [] = some ⟨fRSgHash.bare, [.cell 2 (some 4)], 21⟩ := by kernel_rfl
@[reducible] def fRSgSecret : KCode := by
  refine (?f : lowF Tryz.progTables Tryz.f14 [] [(1, [1, 0, 2, 3])] = ?c → annF false [] [0] ?c = ?k → KCode) ?h ?i
  case h => cbv; exact rfl
  case i => cbv; exact rfl
  exact fun _ _ => ?k
theorem fRSgSecret_low : lowFunc Tryz.prog 14 [] [(1, [1, 0, 2, 3])] = some ⟨fRSgSecret.bare, [.cell 2 (some 4), .tmp 3], 44⟩ := by kernel_rfl
@[reducible] def fRSgPublic : KCode := by
  refine (?f : lowF Tryz.progTables Tryz.f5 [] [(2, [1, 0, 2, 3, 4, 5])] = ?c → annF false [] [] ?c = ?k → KCode) ?h ?i
  case h => cbv; exact rfl
  case i => cbv; exact rfl
  exact fun _ _ => ?k
theorem fRSgPublic_low : lowFunc Tryz.prog 5 [] [(2, [1, 0, 2, 3, 4, 5])] = some ⟨fRSgPublic.bare, [.cell 2 (some 32)], 15⟩ := by kernel_rfl
@[reducible] def fRSgSign : KCode := by
  refine (?f : lowF Tryz.progTables Tryz.f6 [(4, 0), (4, 2), (4, 3), (4, 4), (5, 4), (7, 3), (7, 4), (7, 5), (7, 6)] [] = ?c → annF false [] [4,6] ?c = ?k → KCode) ?h ?i
  case h => cbv; exact rfl
  case i => cbv; exact rfl
  exact fun _ _ => ?k
theorem fRSgSign_low : lowFunc Tryz.prog 6 [(4, 0), (4, 2), (4, 3), (4, 4), (5, 4), (7, 3), (7, 4), (7, 5), (7, 6)] [] = some ⟨fRSgSign.bare, [.cell 4 (some 64)], 61⟩ := by kernel_rfl
@[reducible] def fRSgVerify : KCode := by
  refine (?f : lowF Tryz.progTables Tryz.f30 [(18, 4)] [(19, [1, 2, 4, 5, 6, 7, 9, 0, 3, 8, 10, 11, 12])] = ?c → annF false [] [17] ?c = ?k → KCode) ?h ?i
  case h => cbv; exact rfl
  case i => cbv; exact rfl
  exact fun _ _ => ?k
theorem fRSgVerify_low : lowFunc Tryz.prog 30 [(18, 4)] [(19, [1, 2, 4, 5, 6, 7, 9, 0, 3, 8, 10, 11, 12])] = some ⟨fRSgVerify.bare, [.tmp 6], 91⟩ := by kernel_rfl
end Go.Proofs.YthgibibeoapfbaaGreat
namespace Go.Proofs.YthgibibeoapfbaaGreat
open Go Go.Fw
attribute [local irreducible] W WX WR WO WS WSr WH WHA WG WC FSpec
attribute [local simp] WS_at_map WSr_at_map WS_at_arr WSr_at_arr loadWP splice_full Int.natCast_inj arr_set arr_take
def OkM (m : Nat) : Prop := m = 32 ∨ m = 64
def frm {m : Nat} (F : Sha m) : List AV := [.int .i64 (m : Nat), .int .i64 (F.R : Nat), .int .i64 (F.A.1 : Nat), .int .i64 (F.A.2.1 : Nat), .int .i64 (F.A.2.2 : Nat), .int .i64 (F.E.1 : Nat), .int .i64 (F.E.2.1 : Nat), .int .i64 (F.E.2.2 : Nat), .int .i64 (F.s0.1 : Nat), .int .i64 (F.s0.2.1 : Nat), .int .i64 (F.s0.2.2 : Nat), .int .i64 (F.s1.1 : Nat), .int .i64 (F.s1.2.1 : Nat), .int .i64 (F.s1.2.2 : Nat)]
@[simp] theorem ltL_frm {m : Nat} (n : Nat) (F : Sha m) : ltL n (frm F) = true := by simp [frm]
@[simp] theorem idsL_frm {m : Nat} (q : Nat → Bool) (F : Sha m) : idsL q (frm F) = true := by simp [frm]
@[simp] theorem subL_frm {m : Nat} (s : Nat → Nat → Nat → Nat → Option Nat → AV) (p : Nat → Nat → AV) (F : Sha m) : subL s p (frm F) = frm F := by simp [frm]
@[simp] theorem cleanL_frm {m : Nat} (F : Sha m) : cleanL (frm F) = true := by simp [frm]
@[simp] theorem frm_length {m : Nat} (F : Sha m) : (frm F).length = 14 := by simp [frm]
@[simp] theorem frm_take {m : Nat} (F : Sha m) : (frm F).take 14 = frm F := by simp [frm]
theorem frm_R {m : Nat} (F : Sha m) : atF (frm F) 1 = ok1 (.int .i64 (F.R : Nat)) := rfl
def tL (t : Nat × Nat × Nat) : List AV := [.int .i64 (t.1 : Nat), .int .i64 (t.2.1 : Nat), .int .i64 (t.2.2 : Nat)]
theorem frm_A {m : Nat} (F : Sha m) : ((frm F).drop 2).take 3 = tL F.A := rfl
theorem frm_E {m : Nat} (F : Sha m) : ((frm F).drop 5).take 3 = tL F.E := rfl
theorem frm_s0 {m : Nat} (F : Sha m) : ((frm F).drop 8).take 3 = tL F.s0 := rfl
theorem frm_s1 {m : Nat} (F : Sha m) : ((frm F).drop 11).take 3 = tL F.s1 := rfl
@[simp] theorem idsL_tL (q : Nat → Bool) (t : Nat × Nat × Nat) : idsL q (tL t) = true := by simp [tL]
@[simp] theorem ltL_tL (n : Nat) (t : Nat × Nat × Nat) : ltL n (tL t) = true := by simp [tL]
@[simp] theorem subL_tL (s : Nat → Nat → Nat → Nat → Option Nat → AV) (p : Nat → Nat → AV) (t : Nat × Nat × Nat) : subL s p (tL t) = tL t := by simp [tL]
theorem fLong_spec : FSpec Tryz.prog 34 [] [] (.agg (frm F64)) [] := by
  refine FSpec.of_W fLong_low (by simp) ?_
  simp only [initEnv]
  simp
  exact fin_W (by simp [frm, F64])
section
variable {m : Nat} (F : Sha m)
theorem fCut3_spec (hm : OkM m) (v : Nat) (hv : v < 2 ^ 64) : FSpec Tryz.prog 67 [.agg (frm F), .int .u64 (v : Nat)] [] (.int .u64 (v % 2 ^ m : Nat)) [] := by
  refine FSpec.of_W fCut3_low (by simp) ?_
  simp only [initEnv]
  rcases hm with rfl | rfl
  · have e : (v : Int).tmod 4294967296 = ((v % 4294967296 : Nat) : Int) := rfl
    simp [frm, e]
    exact fin_W (by simp)
  · rw [Nat.mod_eq_of_lt hv]
    simp [frm]
    exact fin_W (by simp)
theorem fTurn3_spec (hm : OkM m) (x : BitVec m) (n : Nat) (h1 : 0 < n) (h2 : n < m) : FSpec Tryz.prog 98 [.agg (frm F), .int .u64 (wn x : Nat), .int .i64 (n : Nat)] [] (.int .u64 (wn (x.rotateRight n) : Nat)) [] := by
  have hm64 : m ≤ 64 := by rcases hm with h | h <;> omega
  have e1 : ((wn x : Nat) : Int).fdiv (2 ^ min n 64) = ((wn x / 2 ^ n : Nat) : Int) := by rw [show min n 64 = n by omega]; exact shr_nat _ _
  obtain ⟨s, hs⟩ : ∃ s, s = m - n := ⟨_, rfl⟩
  have e2 : IntKind.i64.wrap ((m : Int) - (n : Int)) = (s : Int) := by rw [wrap64s (by omega) (by omega)]; omega
  have e3 : IntKind.u64.wrap (((wn x : Nat) : Int) * 2 ^ min s 64) = ((wn x * 2 ^ s % 2 ^ 64 : Nat) : Int) := by
    rw [show min s 64 = s by omega, show ((wn x : Nat) : Int) * 2 ^ s = ((wn x * 2 ^ s : Nat) : Int) by simp, wrapu64]
  have hx := wn_lt x
  have hp : 2 ^ m ≤ 2 ^ 64 := Nat.pow_le_pow_right (by decide) hm64
  have l1 : wn x / 2 ^ n < 2 ^ 64 := Nat.lt_of_le_of_lt (Nat.div_le_self _ _) (by omega)
  have l2 : wn x * 2 ^ s % 2 ^ 64 < 2 ^ 64 := Nat.mod_lt _ (by decide)
  have e4 := bitI_or (k := .u64) rfl l1 l2
  have hc := fCut3_spec F hm _ (Nat.or_lt_two_pow l1 l2)
  rw [hs, turn_val hm64 x n h2] at hc
  rw [← hs] at hc
  obtain ⟨a, ha⟩ : ∃ a, a = wn x / 2 ^ n := ⟨_, rfl⟩
  obtain ⟨b, hb⟩ : ∃ b, b = wn x * 2 ^ s % 2 ^ 64 := ⟨_, rfl⟩
  rw [← ha, ← hb] at e4 hc
  rw [← ha] at e1
  rw [← hb] at e3
  refine FSpec.of_W fTurn3_low (by simp) ?_
  simp only [initEnv]
  simp [frm, e1, e2, e3, e4, IntKind.bits]
  refine WO_callP (as' := [.agg (frm F), .int .u64 ((a ||| b : Nat) : Int)]) [] rfl (by simp [frm]) hc (by simp [frm]) (by simp) ?_
  simp
  exact fin_W (by simp)
def tV (t : Nat × Nat × Nat) : AV := .agg (tL t)
theorem xorm (hm : m ≤ 64) (x y : BitVec m) : bitI .xor .u64 (wn x : Nat) (wn y : Nat) = (wn (x ^^^ y) : Nat) := wx_xor rfl hm x y
theorem fBig3_spec (hm : OkM m) (x : BitVec m) (t : Nat × Nat × Nat) (h1 : 0 < t.1 ∧ t.1 < m) (h2 : 0 < t.2.1 ∧ t.2.1 < m) (h3 : 0 < t.2.2 ∧ t.2.2 < m) : FSpec Tryz.prog 68 [.agg (frm F), .int .u64 (wn x : Nat), tV t] [] (.int .u64 (wn (bigT t x) : Nat)) [] := by
  have hm64 : m ≤ 64 := by rcases hm with h | h <;> omega
  have hx := xorm hm64
  refine FSpec.of_W fBig3_low (by simp) ?_
  simp only [initEnv]
  simp [frm, tV, tL]
  refine WO_callP (as' := [.agg (frm F), .int .u64 (wn x : Nat), .int .i64 (t.1 : Nat)]) [] rfl (by simp [frm]) (fTurn3_spec F hm x t.1 h1.1 h1.2) (by simp [frm]) (by simp) ?_
  simp
  refine WO_callP (as' := [.agg (frm F), .int .u64 (wn x : Nat), .int .i64 (t.2.1 : Nat)]) [] rfl (by simp [frm]) (fTurn3_spec F hm x t.2.1 h2.1 h2.2) (by simp [frm]) (by simp) ?_
  simp [hx]
  refine WO_callP (as' := [.agg (frm F), .int .u64 (wn x : Nat), .int .i64 (t.2.2 : Nat)]) [] rfl (by simp [frm]) (fTurn3_spec F hm x t.2.2 h3.1 h3.2) (by simp [frm]) (by simp) ?_
  simp [hx]
  exact fin_W (by simp [bigT])
theorem fSmall3_spec (hm : OkM m) (x : BitVec m) (t : Nat × Nat × Nat) (h1 : 0 < t.1 ∧ t.1 < m) (h2 : 0 < t.2.1 ∧ t.2.1 < m) (h3 : t.2.2 < m) : FSpec Tryz.prog 66 [.agg (frm F), .int .u64 (wn x : Nat), tV t] [] (.int .u64 (wn (smallT t x) : Nat)) [] := by
  have hm64 : m ≤ 64 := by rcases hm with h | h <;> omega
  have hx := xorm hm64
  have e1 : ((wn x : Nat) : Int).fdiv (2 ^ min t.2.2 64) = (wn (x >>> t.2.2) : Nat) := by rw [show min t.2.2 64 = t.2.2 by omega]; exact wx_shr x _
  refine FSpec.of_W fSmall3_low (by simp) ?_
  simp only [initEnv]
  simp [frm, tV, tL, e1, IntKind.bits]
  refine WO_callP (as' := [.agg (frm F), .int .u64 (wn x : Nat), .int .i64 (t.1 : Nat)]) [] rfl (by simp [frm]) (fTurn3_spec F hm x t.1 h1.1 h1.2) (by simp [frm]) (by simp) ?_
  simp
  refine WO_callP (as' := [.agg (frm F), .int .u64 (wn x : Nat), .int .i64 (t.2.1 : Nat)]) [] rfl (by simp [frm]) (fTurn3_spec F hm x t.2.1 h2.1 h2.2) (by simp [frm]) (by simp) ?_
  simp [hx]
  exact fin_W (by simp [smallT])
theorem fConst3_spec (hm : OkM m) (v : Nat) : FSpec Tryz.prog 63 [.agg (frm F), .int .u64 (v : Nat)] [] (.int .u64 (v / 2 ^ (64 - m) : Nat)) [] := by
  obtain ⟨s, hs⟩ : ∃ s, s = 64 - m := ⟨_, rfl⟩
  have e2 : IntKind.i64.wrap (64 - (m : Int)) = (s : Int) := by rcases hm with h | h <;> (rw [wrap64s (by omega) (by omega)]; omega)
  have e1 : ((v : Nat) : Int).fdiv (2 ^ min s 64) = ((v / 2 ^ s : Nat) : Int) := by rw [show min s 64 = s by omega]; exact shr_nat _ _
  refine FSpec.of_W fConst3_low (by simp) ?_
  simp only [initEnv]
  rw [← hs]
  obtain ⟨w, hw⟩ : ∃ w, w = v / 2 ^ s := ⟨_, rfl⟩
  rw [← hw] at e1 ⊢
  simp [frm, e1, e2, IntKind.bits]
  exact fin_W (by simp)
end
end Go.Proofs.YthgibibeoapfbaaGreat
