/-
  chapter 16: the law of Encode
-/
import Derived.Test.YtlffcidcopibmaaT36
set_option linter.unusedSimpArgs false
set_option linter.unusedVariables false
set_option linter.unusedSectionVars false
namespace Go.Proofs.Ytlffcidcopibmaa
open Go Go.Fw
attribute [local simp] bv cleanL_bv toBytes_bv ltL_bv atF_drop WS_at_bytes W_nil W_skip W_seq W_reg W_draw W_drawP W_kill W_keep W_block W_blk W_exit W_ret WX_blk WX_c WX_lp WX_li W_li W_condT W_condF W_cond WC_true WC_false
  WR_nil WR_cons WR_o1 WR_o2 o1_chk o2_chk WR_grd WG_tt WG_ff WG_tf WG_ft WG_none WS_some WS_ok1 WSr_no WSr_some WSr_ok1 WSr_at_bytes WH_some WHA_some chkF_cons chkF_nil chkE_some chkE_ok1 chkE_at evF WO_mv WO_pick WO_bin WO_isNil WO_eqA WO_un WO_convI WO_toStr WO_ofStr WO_build WO_buildF WO_load WO_nilCheck WO_fieldAddr WO_field WO_idxA WO_idxS
  WO_ixA WO_slS WO_slA WO_len WO_lenK WO_appF WO_extract WO_s2a WO_iface WO_min WO_max WO_alloc WO_box WO_buildO WO_store WO_appO WO_copy WO_makeS WO_allocA WO_makeA WO_cvt cvtF_slice WO_look lookF_map alAF mkAF WO_func bind1_v bind2_v bindH_v bindH2_v bindS_v okO_v pickO_t pickO_f
  Env.keep Env.get Env.set Env.del Env.dels Env.setO Env.opd Env.opds Env.opdO Env.parts intF aggF fillA splice cleanL AV.clean bndF fldF_one fldF_many toStrF boxF buildOF
  loadF_rptr loadF_rptrN atF_zero atF_succ blk_cons_zero blk_cons_succ loadF_p loadF_pN atB_some atBN_some retPost resL one
  okc_bool cells_bool notStr_bool okc_int cells_int notStr_int okc_str cells_str notStr_str okc_nil cells_nil notStr_nil okc_ptr cells_ptr notStr_ptr okc_rptr cells_rptr notStr_rptr okc_slice cells_slice notStr_slice 
  okc_list cells_list notStr_list okc_func cells_func notStr_func okc_nilFunc cells_nilFunc notStr_nilFunc okc_iface cells_iface notStr_iface okc_nilIface cells_nilIface notStr_nilIface okc_agg cells_agg notStr_agg 
  okc_tuple cells_tuple notStr_tuple lenF_slice lenF_list lenF_str faF_ptr faF_rptr idxSF_slice idxSF_list idxAF_ptr idxAF_rptr ixAF_many ixAF_one convF_int unF_neg unF_xor unF_not nilF_0nil nilF_0ptr nilF_0rptr nilF_1 
  nilF_2nil nilF_2f nilF_3nil nilF_3f binF_int binF_beq binF_bne binF_sadd binF_seq binF_sne sliceCells_list sliceCells_str sliceCells_slice cutC_some szAV_list szAV_str szAV_slice oneSl_list oneSl_slice slSF_sliceS 
  slSF_sliceN slSF_list slAF_rptr slAF_ptr appFF_list appOF_list appOF_sliceN appOF_sliceS storeF_ptr copyF_slice extF_tuple s2aF_slice s2aF_list nchkF_ptr nchkF_rptr nchkF_f mmF_int ofStrF_str mkSF_int eqAF_agg
attribute [local irreducible] W WX WR WO WS WSr WH WHA WG WC FSpec
attribute [local simp] lendAll
attribute [local congr] W_cg WR_cg WO_cg WS_cg WSr_cg WH_cg WHA_cg WG_cg WC_cg WX_cg
attribute [local simp] Env.has AV.wkr wkrL AV.wkr_refl wkrL_refl AV.ltI ltL leHW hasW Env.lt AV.ids idsL AV.sub subL AV.ren AV.frz frzS frzP frzE frzL Heap.frz Blk.frz Blk.ren renL rnS rnP hasR leR idsL_bv subL_bv
attribute [local simp] cleanL_take cleanL_drop ltL_take ltL_drop idsL_take idsL_drop subL_take subL_drop cleanL_append ltL_append idsL_append subL_append
attribute [local simp] renE mvN mvH
attribute [local simp] fwd backH putL bwd
attribute [local simp] u8i u8e List.idxOf_cons
attribute [local simp] hasRW leRW
theorem fOpR_spec (r : Req16) (md : Md) (hmd : md.bw = false) (hs : r.size < 2 ^ 32) (hd0 : r.data.length < 2 ^ 62) : FSpec Try.prog 10 [.agg [bv r.op, bv r.ty, .int .u32 r.size, .list 1 md (r.data.map bv)]] [] (.bool true) [] := by
  refine FSpec.of_W fOpR_low (by simp) ?_
  simp only [initEnv]
  simp [hmd]
  refine WO_callP [] rfl rfl fLives16_spec (by simp) (by simp) ?_
  simp
  refine WC_dec (fun h => ?_) (fun h => ?_)
  · simp
    refine WO_callP [] rfl rfl fLives16_spec (by simp) (by simp) ?_
    simp
    exact fin_W (by simp)
  have hd : r.data.length ≤ 200 := by omega
  simp
  refine WO_callP (as' := [.agg [bv r.op, bv r.ty, .int .u32 r.size, .list 1 md (r.data.map bv)]]) [] rfl rfl (fREnc_spec r md hmd hs (by omega)) (by simp) (by simp) ?_
  simp
  refine WO_callP (as' := [.agg [bv r.op, bv r.ty, .int .u32 r.size, .list 1 md (r.data.map bv)]]) [] rfl rfl (fRREnc_spec r md hmd hs (by omega)) (by simp) (by simp) ?_
  simp
  rw [encQ_eq r hs]
  by_cases hk : rOk r = true
  · have e1 : parQ (encB r) = (r, 0) := (parQ_encB r hs).2 hk
    have e2 : rEnc r = encB r := by
      unfold rEnc
      rw [if_pos]
      refine Classical.byContradiction fun hn => ?_
      simp [fOk] at hn
      simp [rOk, hn] at hk
    have hbl : (encB r).length < 2 ^ 32 := by
      have hS : fS r.op ≤ 4 := by unfold fS; split <;> (try split) <;> omega
      simp only [encB, preB, leB, List.length_append, List.length_map, List.length_range]
      split <;> split <;> simp <;> omega
    simp [hk, e2]
    refine WO_callP (as' := [.list 1 ⟨false, false, false⟩ ((encB r).map bv)]) [] rfl rfl (fPar_spec (encB r) _ (by omega)) (by simp [parR, reqV]) (by simp) ?_
    simp [e1, parR, reqV]
    refine WO_callP (as' := [.agg [bv r.op, bv r.ty, .int .u32 r.size, .list 1 md (r.data.map bv)], .agg (reqV r)]) [] rfl rfl (fSame16_spec _ _ _ _ _ _ _ _ md _ hmd rfl) (by simp [reqV]) (by simp) ?_
    simp
    exact fin_W (by simp)
  · simp [hk]
    exact fin_W (by simp)
theorem fOpcodeRequests_law : ∀ args, AllFit Try.prog 8 Try.f10.params.toList args → FSpec Try.prog 10 args [] (.bool true) [] := by
  intro args has
  rw [show Try.f10.params.toList = [69] from by rw [Try.params10]] at has
  obtain ⟨a, as1, rfl, h1, has⟩ := all_cons has
  cases all_nil has
  obtain ⟨xs, rfl, h⟩ := arg_struct Try.underlying69 h1
  obtain ⟨x1, y1, rfl, g1, x2, y2, rfl, g2, x3, y3, rfl, g3, x4, y4, rfl, g4, rfl⟩ := h
  obtain ⟨o, rfl⟩ := fit_u8 Try.underlying5 g1
  obtain ⟨ty, rfl⟩ := fit_u8 Try.underlying5 g2
  obtain ⟨s, s1, s2, rfl⟩ := fit_int Try.underlying49 g3
  obtain ⟨z, rfl⟩ := fit_one (by rw [Try.underlying22]) g4
  obtain ⟨nl, full, l, rfl, hl⟩ := fit_bytes Try.underlying22 Try.underlying5 (by kernel_rfl) (by kernel_rfl) g4
  simp [IntKind.min, IntKind.max, IntKind.signed, IntKind.bits] at s1 s2
  obtain ⟨n, rfl⟩ := Int.eq_ofNat_of_zero_le s1
  exact fOpR_spec ⟨o, ty, n, l⟩ _ rfl (by simp only; omega) (by simp only; omega)
end Go.Proofs.Ytlffcidcopibmaa
