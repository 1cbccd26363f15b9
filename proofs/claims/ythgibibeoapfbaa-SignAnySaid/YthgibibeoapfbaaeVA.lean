/-
  curve sums
-/
import Derived.Test.YthgibibeoapfbaaeV9
set_option linter.unusedSimpArgs false
set_option linter.unnecessarySimpa false
set_option linter.unusedVariables false
set_option linter.unusedSectionVars false
namespace Go.Proofs.Ythgibibeoapfbaa
open Go Go.Fw
attribute [local simp] bv cleanL_bv toBytes_bv ltL_bv atF_drop WS_at_bytes W_nil W_skip W_seq W_reg W_draw W_drawP W_kill W_keep W_block W_blk W_exit W_ret WX_blk WX_c WX_lp WX_li W_li W_condT W_condF W_cond WC_true WC_false
  WR_nil WR_cons WR_o1 WR_o2 o1_chk o2_chk WR_grd WG_tt WG_ff WG_tf WG_ft WG_none WS_some WS_ok1 WSr_no WSr_some WSr_ok1 WSr_at_bytes WH_some WHA_some chkF_cons chkF_nil chkE_some chkE_ok1 chkE_at evF WO_mv WO_pick WO_bin WO_isNil WO_eqA WO_un WO_convI WO_toStr WO_ofStr WO_build WO_buildF WO_load WO_nilCheck WO_fieldAddr WO_field WO_idxA WO_idxS
  WO_ixA WO_slS WO_slA WO_len WO_lenK WO_appF WO_extract WO_s2a WO_iface WO_min WO_max WO_alloc WO_box WO_buildO WO_store WO_appO WO_copy WO_makeS WO_allocA WO_makeA WO_cvt cvtF_slice WO_look lookF_map alAF mkAF WO_func bind1_v bind2_v bindH_v bindH2_v bindS_v okO_v pickO_t pickO_f
  Env.keep Env.get Env.set Env.del Env.dels Env.setO Env.opd Env.opds Env.opdO Env.parts intF aggF fillA splice cleanL AV.clean bndF fldF_one fldF_many toStrF boxF buildOF
  loadF_rptr loadF_rptrN atF_zero atF_succ blk_cons_zero blk_cons_succ loadF_p loadF_pN atB_some atBN_some retPost resL one
  okc_bool cells_bool notStr_bool okc_int cells_int notStr_int okc_str cells_str notStr_str okc_nil cells_nil notStr_nil okc_ptr cells_ptr notStr_ptr okc_rptr cells_rptr notStr_rptr okc_slice cells_slice notStr_slice 
  okc_list cells_list notStr_list okc_func cells_func notStr_func okc_nilFunc cells_nilFunc notStr_nilFunc okc_iface cells_iface notStr_iface okc_nilIface cells_nilIface notStr_nilIface okc_agg cells_agg notStr_agg 
  okc_tuple cells_tuple notStr_tuple lenF_slice lenF_list lenF_str faF_ptr faF_rptr idxSF_slice idxSF_list idxAF_ptr idxAF_rptr ixAF_many ixAF_one convF_int unF_neg unF_xor unF_not nilF_0nil nilF_0ptr nilF_0rptr nilF_1 
  nilF_2nil nilF_2f nilF_3nil nilF_3f binF_int binF_beq binF_bne binF_sadd binF_seq binF_sne sliceCells_list sliceCells_str sliceCells_slice cutC_some szAV_list szAV_str szAV_slice oneSl_list oneSl_slice slSF_sliceS 
  slSF_sliceN slSF_list slAF_rptr slAF_ptr appFF_list appOF_list appOF_sliceN appOF_sliceS storeF_ptr copyF_slice extF_tuple s2aF_slice s2aF_list nchkF_ptr nchkF_rptr nchkF_f mmF_int ofStrF_str mkSF_int eqAF_agg
attribute [local irreducible] W WX WR WO WS WSr WH WHA WG WC FSpec
attribute [local simp] lendAll
attribute [local congr] W_cg WR_cg WO_cg WS_cg WSr_cg WH_cg WHA_cg WG_cg WC_cg WX_cg
attribute [local simp] Env.has AV.wkr wkrL AV.wkr_refl wkrL_refl AV.ltI ltL leHW hasW Env.lt AV.ids idsL AV.sub subL AV.ren AV.frz frzS frzP frzE frzL Heap.frz Blk.frz Blk.ren renL rnS rnP hasR leR idsL_bv subL_bv
attribute [local simp] cleanL_take cleanL_drop ltL_take ltL_drop idsL_take idsL_drop subL_take subL_drop cleanL_append ltL_append idsL_append subL_append
attribute [local simp] renE mvN mvH
attribute [local simp] fwd backH putL bwd
attribute [local simp] u8i u8e List.idxOf_cons
attribute [local simp] hasRW leRW
attribute [local simp] WS_at_map WSr_at_map loadWP splice_full Int.natCast_inj q17_d q17_t q17_t0 q17_d34 q17_t51 q17_s0 q17_s17 q17_s34 hk17
noncomputable def pB (n : Nat) : Cv.EP Fp := timesE (wholeE (atE (toF baseX) (toF baseY))) n 256
def mB (n : Nat) : Cv.RP Fp := timesR ⟨toF baseX, toF baseY, 1⟩ n (toF dP) 256
theorem pB_rep {n : Nat} (hn : n < 2 ^ 256) : Cv.Rep (pB n) (Cv.smul n P0) := times256 (rep_at P0) hn
theorem mB_rep {n : Nat} (hn : n < 2 ^ 256) : Cv.RRep (mB n) (Cv.smul n P0) := timesR256 (rrep_at P0) hn
theorem bool_eq {a b : Bool} {p : Prop} (h1 : a = true ↔ p) (h2 : b = true ↔ p) : a = b := by
  cases a <;> cases b <;> simp_all
end Go.Proofs.Ythgibibeoapfbaa
