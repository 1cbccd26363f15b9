/-
  deslip
-/
import Derived.Test.YtlffcidcopibmaaT23
set_option linter.unusedSimpArgs false
set_option linter.unusedVariables false
set_option linter.unusedSectionVars false
namespace Go.Proofs.Ytlffcidcopibmaa
open Go Go.Fw
attribute [local simp] bv cleanL_bv toBytes_bv ltL_bv atF_drop WS_at_bytes W_nil W_skip W_seq W_reg W_draw W_kill W_keep W_block W_blk W_exit W_ret WX_blk WX_c WX_lp WX_li W_li W_condT W_condF W_cond WC_true WC_false
  WR_nil WR_cons WR_o1 WR_o2 o1_chk o2_chk WR_grd WG_tt WG_ff WG_tf WG_ft WG_none WS_some WS_ok1 WSr_no WSr_some WSr_ok1 WSr_at_bytes WH_some chkF_cons chkF_nil chkE_some chkE_ok1 chkE_at evF WO_mv WO_pick WO_bin WO_isNil WO_eqA WO_un WO_convI WO_toStr WO_ofStr WO_build WO_buildF WO_load WO_nilCheck WO_fieldAddr WO_field WO_idxA WO_idxS
  WO_ixA WO_slS WO_slA WO_len WO_lenK WO_appF WO_extract WO_s2a WO_iface WO_min WO_max WO_alloc WO_box WO_buildO WO_store WO_appO WO_copy WO_makeS WO_func bind1_v bind2_v bindH_v bindH2_v bindS_v okO_v pickO_t pickO_f
  Env.keep Env.get Env.set Env.del Env.dels Env.setO Env.opd Env.opds Env.opdO Env.parts intF aggF fillA splice cleanL AV.clean bndF fldF_one fldF_many toStrF boxF buildOF
  loadF_rptr loadF_rptrN atF_zero atF_succ blk_cons_zero blk_cons_succ loadF_p loadF_pN atB_some atBN_some retPost resL one
  okc_bool cells_bool notStr_bool okc_int cells_int notStr_int okc_str cells_str notStr_str okc_nil cells_nil notStr_nil okc_ptr cells_ptr notStr_ptr okc_rptr cells_rptr notStr_rptr okc_slice cells_slice notStr_slice 
  okc_list cells_list notStr_list okc_func cells_func notStr_func okc_nilFunc cells_nilFunc notStr_nilFunc okc_iface cells_iface notStr_iface okc_nilIface cells_nilIface notStr_nilIface okc_agg cells_agg notStr_agg 
  okc_tuple cells_tuple notStr_tuple lenF_slice lenF_list lenF_str faF_ptr faF_rptr idxSF_slice idxSF_list idxAF_ptr idxAF_rptr ixAF_many ixAF_one convF_int unF_neg unF_xor unF_not nilF_0nil nilF_0ptr nilF_0rptr nilF_1 
  nilF_2nil nilF_2f nilF_3nil nilF_3f binF_int binF_beq binF_bne binF_sadd binF_seq binF_sne sliceCells_list sliceCells_str sliceCells_slice cutC_some szAV_list szAV_str szAV_slice oneSl_list oneSl_slice slSF_sliceS 
  slSF_sliceN slSF_list slAF_rptr slAF_ptr appFF_list appOF_list appOF_sliceN appOF_sliceS storeF_ptr copyF_slice extF_tuple s2aF_slice s2aF_list nchkF_ptr nchkF_rptr nchkF_f mmF_int ofStrF_str mkSF_int eqAF_agg
attribute [local irreducible] W WX WR WO WS WSr WH WG WC FSpec
attribute [local simp] lendAll
attribute [local congr] W_cg WR_cg WO_cg WS_cg WSr_cg WH_cg WG_cg WC_cg WX_cg
attribute [local simp] Env.has AV.wkr wkrL AV.wkr_refl wkrL_refl AV.ltI ltL leHW hasW Env.lt AV.ids idsL AV.sub subL AV.ren AV.frz frzS frzP frzE frzL Heap.frz Blk.frz Blk.ren renL rnS rnP hasR leR idsL_bv subL_bv
attribute [local simp] cleanL_take cleanL_drop ltL_take ltL_drop idsL_take idsL_drop subL_take subL_drop cleanL_append ltL_append idsL_append subL_append
attribute [local simp] renE mvN mvH
attribute [local simp] fwd backH putL bwd
attribute [local simp] u8i u8e List.idxOf_cons
attribute [local simp] hasRW leRW
theorem feeds_len (most : Int) : ∀ (b : List UInt8) (s : List UInt8 × Bool × Bool), (feedsF most s b).1.length = b.length
  | [], _ => rfl
  | c :: b, s => by simp [feedsF, feeds_len most b]
theorem fLives10_spec : FSpec Try.prog 23 [] [] (.bool true) [] := by
  refine FSpec.of_W fLives10_low (by simp) ?_
  simp only [initEnv]
  simp
  refine WO_call rfl (fNew_spec 9 (by omega) (by omega)) (by simp) ?_
  simp
  refine WO_call rfl (fFeedL_spec [] 9 false false [219, 1, 2, 192, 3, 192] ⟨false, true, false⟩ (by simp)) (by simp) ?_
  rw [show feedsF 9 ([], false, false) [219, 1, 2, 192, 3, 192] = ([⟨0, [], 0⟩, ⟨2, [], 7⟩, ⟨0, [], 0⟩, ⟨0, [], 0⟩, ⟨0, [], 0⟩, ⟨1, [3], 0⟩], [], false, false) by decide]
  simp [evs1, toBytes]
  exact fin_W (by simp)
theorem fDeslipBytes_spec (b : List UInt8) (md : Md) (hm : md.bw = false) (most : Int) (h : -(2 ^ 63) ≤ most ∧ most < 2 ^ 63) (hb : b.length < 2 ^ 62) : FSpec Try.prog 6 [.list 1 md (b.map bv), .int .i64 most] [] (.bool true) [] := by
  refine FSpec.of_W fDeslipBytes_low (by simp) ?_
  simp only [initEnv]
  simp
  refine WO_callP [] rfl rfl fLives10_spec (by simp) (by simp) ?_
  by_cases h0 : 1000 < (b.length : Int)
  · simp [h0]
    refine WO_callP [] rfl rfl fLives10_spec (by simp) (by simp) ?_
    simp
    exact fin_W (by simp)
  simp [h0]
  by_cases h1 : most < 1 ∨ 65536 < most
  · refine WO_callP [] rfl rfl (fNew_bad most h1) (by simp) (by simp) ?_
    by_cases h2 : most < 1
    · simp [h2]
      exact fin_W (by simp)
    · simp [h2, h1.resolve_left h2]
      exact fin_W (by simp)
  · have h2 : ¬ most < 1 := fun q => h1 (.inl q)
    have h3 : ¬ 65536 < most := fun q => h1 (.inr q)
    refine WO_call rfl (fNew_spec most h2 h3) (by simp) ?_
    simp [h2, h3]
    obtain ⟨k, rfl⟩ : ∃ k : Nat, most = k := ⟨most.toNat, by omega⟩
    refine WO_call rfl (fFeedL_spec [] k false false b md (by simp; omega)) (by simp) ?_
    have e := feeds_events k _ b (Nat.le_refl _)
    simp [e]
    refine WO_callP [] rfl rfl (fEvents_spec b md hm k (by omega)) (by simp) (by simp) ?_
    have hl : ((partsF [] b).flatMap (partG k [])).length < 2 ^ 62 := by rw [← e, feeds_len]; exact hb
    simp
    refine WO_callP [] rfl rfl (fSameE_spec _ _ _ _ hl hl) (by simp) (by simp) ?_
    simp
    exact fin_W (by simp)
theorem fDeslipNil_spec (c : UInt8) : FSpec Try.prog 8 [bv c] [] (.bool true) [] := by
  refine FSpec.of_W fDeslipNil_low (by simp) ?_
  simp only [initEnv]
  simp
  refine WO_callP [] rfl rfl fLives10_spec (by simp) (by simp) ?_
  simp
  refine WO_callP [] rfl rfl (fFeed_nil c) (by simp [feedR]) (by simp) ?_
  simp [feedR]
  refine WO_call rfl (fNew_spec 4 (by omega) (by omega)) (by simp) ?_
  simp
  refine WO_call rfl (fFeed_spec [] 4 false false 7 (by simp)) (by simp) ?_
  rw [show feedF 4 ([], false, false) 7 = (([], 0), [7], false, false) by decide]
  simp [dH']
  refine WO_callF [0, 2] rfl rfl (fFeed_spec [7] 4 false false 192 (by simp)) (by simp [dH']) (by simp [dH]) (by simp) ?_
  rw [show feedF 4 ([7], false, false) 192 = (([7], 0), [], false, false) by decide]
  simp [dH', feedR]
  refine WO_callF [0, 3] rfl rfl (fFeed_spec [] 4 false false 8 (by simp)) (by simp [dH']) (by simp [dH]) (by simp) ?_
  rw [show feedF 4 ([], false, false) 8 = (([], 0), [8], false, false) by decide]
  simp [dH', feedR]
  refine WO_callF [0, 4] rfl rfl (fFeed_spec [8] 4 false false 192 (by simp)) (by simp [dH']) (by simp [dH]) (by simp) ?_
  rw [show feedF 4 ([8], false, false) 192 = (([8], 0), [], false, false) by decide]
  simp [dH', feedR, toBytes]
  exact fin_W (by simp)
theorem fDeslipBytes_law : ∀ args, AllFit Try.prog 8 Try.f6.params.toList args → FSpec Try.prog 6 args [] (.bool true) [] := by
  intro args has
  rw [show Try.f6.params.toList = [22, 3] from by rw [Try.params6]] at has
  obtain ⟨a, as1, rfl, h1, has⟩ := all_cons has
  obtain ⟨c, as2, rfl, h2, has⟩ := all_cons has
  cases all_nil has
  obtain ⟨nl, full, l, rfl, hl⟩ := arg_bytes Try.underlying22 Try.underlying5 (by kernel_rfl) (by kernel_rfl) h1
  obtain ⟨m, h3, h4, rfl⟩ := arg_int Try.underlying3 h2
  simp [IntKind.min, IntKind.max, IntKind.signed, IntKind.bits] at h3 h4
  exact fDeslipBytes_spec l _ rfl m (by omega) (by omega)
theorem fDeslipNil_law : ∀ args, AllFit Try.prog 8 Try.f8.params.toList args → FSpec Try.prog 8 args [] (.bool true) [] := by
  intro args has
  rw [show Try.f8.params.toList = [5] from by rw [Try.params8]] at has
  obtain ⟨a, as1, rfl, h1, has⟩ := all_cons has
  cases all_nil has
  obtain ⟨b, rfl⟩ := arg_u8 Try.underlying5 h1
  exact fDeslipNil_spec b
end Go.Proofs.Ytlffcidcopibmaa
