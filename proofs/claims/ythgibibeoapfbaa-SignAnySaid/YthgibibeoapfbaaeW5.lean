/-
  Signatures: any bytes.
-/
import Derived.Test.YthgibibeoapfbaaeW4
set_option linter.unusedSimpArgs false
set_option linter.unnecessarySimpa false
set_option linter.unusedVariables false
set_option linter.unusedSectionVars false
namespace Go.Proofs.Ythgibibeoapfbaa
open Go Go.Fw
attribute [local simp] bv cleanL_bv toBytes_bv ltL_bv atF_drop WS_at_bytes W_nil W_skip W_seq W_reg W_draw W_drawP W_kill W_keep W_block W_blk W_exit W_ret WX_blk WX_c WX_lp WX_li W_li W_condT W_condF W_cond WC_true WC_false
  WR_nil WR_cons WR_o1 WR_o2 o1_chk o2_chk WR_grd WG_tt WG_ff WG_tf WG_ft WG_none WS_some WS_ok1 WSr_no WSr_some WSr_ok1 WSr_at_bytes WH_some WHA_some chkF_cons chkF_nil chkE_some chkE_ok1 chkE_at evF WO_mv WO_pick WO_bin WO_isNil WO_eqA WO_un WO_convI WO_toStr WO_ofStr WO_build WO_buildF WO_load WO_nilCheck WO_fieldAddr WO_field WO_idxA WO_idxS
  WO_ixA WO_slS WO_slA WO_len WO_lenK WO_appF WO_extract WO_s2a WO_iface WO_min WO_max WO_alloc WO_box WO_buildO WO_store WO_appO WO_copy WO_makeS WO_allocA WO_makeA WO_cvt cvtF_slice WO_look lookF_map alAF mkAF WO_func bind1_v bind2_v bindH_v bindH2_v bindS_v okO_v pickO_t pickO_f
  Env.keep Env.get Env.set Env.del Env.dels Env.setO Env.opd Env.opds Env.opdO Env.parts intF aggF fillA splice cleanL AV.clean bndF fldF_one fldF_many toStrF boxF buildOF
  loadF_rptr loadF_rptrN atF_zero atF_succ blk_cons_zero blk_cons_succ loadF_p loadF_pN atB_some atBN_some retPost resL one
  okc_bool cells_bool notStr_bool okc_int cells_int notStr_int okc_str cells_str notStr_str okc_nil cells_nil notStr_nil okc_ptr cells_ptr notStr_ptr okc_rptr cells_rptr notStr_rptr okc_slice cells_slice notStr_slice 
  okc_list cells_list notStr_list okc_func cells_func notStr_func okc_nilFunc cells_nilFunc notStr_nilFunc okc_iface cells_iface notStr_iface okc_nilIface cells_nilIface notStr_nilIface okc_agg cells_agg notStr_agg 
  okc_tuple cells_tuple notStr_tuple lenF_slice lenF_list lenF_str faF_ptr faF_rptr idxSF_slice idxSF_list idxAF_ptr idxAF_rptr ixAF_many ixAF_one convF_int unF_neg unF_xor unF_not nilF_0nil nilF_0ptr nilF_0rptr nilF_1 
  nilF_2nil nilF_2f nilF_3nil nilF_3f binF_int binF_beq binF_bne binF_sadd binF_seq binF_sne sliceCells_list sliceCells_str sliceCells_slice cutC_some szAV_list szAV_str szAV_slice oneSl_list oneSl_slice slSF_sliceS 
  slSF_sliceN slSF_list slAF_rptr slAF_ptr appFF_list appOF_list appOF_sliceN appOF_sliceS storeF_ptr copyF_slice extF_tuple s2aF_slice s2aF_list nchkF_ptr nchkF_rptr nchkF_f mmF_int ofStrF_str mkSF_int eqAF_agg
attribute [local irreducible] W WX WR WO WS WSr WH WHA WG WC FSpec
attribute [local simp] lendAll
attribute [local congr] W_cg WR_cg WO_cg WS_cg WSr_cg WH_cg WHA_cg WG_cg WC_cg WX_cg
attribute [local simp] Env.has AV.wkr wkrL AV.wkr_refl wkrL_refl AV.ltI ltL leHW hasW Env.lt AV.ids idsL AV.sub subL AV.ren AV.frz frzS frzP frzE frzL Heap.frz Blk.frz Blk.ren renL rnS rnP hasR leR idsL_bv subL_bv
attribute [local simp] cleanL_take cleanL_drop ltL_take ltL_drop idsL_take idsL_drop subL_take subL_drop cleanL_append ltL_append idsL_append subL_append
attribute [local simp] renE mvN mvH
attribute [local simp] fwd backH putL bwd
attribute [local simp] u8i u8e List.idxOf_cons
attribute [local simp] hasRW leRW
attribute [local simp] WS_at_map WSr_at_map loadWP splice_full Int.natCast_inj
set_option maxRecDepth 100000 in
set_option maxHeartbeats 4000000 in
theorem fSgKnown_spec : FSpec Try.prog 92 [] [] (.tuple [.agg (keyL.map bv), .agg (sigL.map bv)]) [] := by
  refine FSpec.of_W fSgKnown_low (by simp) ?_
  simp only [initEnv]
  simp
  exact fin_W (by simp [keyL, sigL, bv])
theorem keyL_len : keyL.length = 32 := rfl
theorem sigL_len : sigL.length = 64 := rfl
theorem badL_len : badL.length = 64 := rfl
theorem sig_bad : (sigL.map bv).set 40 (.int .u8 194) = badL.map bv := by kernel_rfl
theorem sV1 : FSpec Try.prog 47 [.agg (keyL.map bv), .agg (sigL.map bv), .list 1 ⟨true, true, false⟩ []] [] (.int .i64 0) [] := by
  have h := fSgVerify_spec keyL sigL keyL_len sigL_len [] ⟨true, true, false⟩ (by decide) (by decide)
  rw [show allB [] = [] from rfl, ver1] at h
  exact h
theorem sV2 : FSpec Try.prog 47 [.agg (keyL.map bv), .agg (badL.map bv), .list 1 ⟨true, true, false⟩ []] [] (.int .i64 9) [] := by
  have h := fSgVerify_spec keyL badL keyL_len badL_len [] ⟨true, true, false⟩ (by decide) (by decide)
  rw [show allB [] = [] from rfl, ver2] at h
  exact h
theorem sV3 : FSpec Try.prog 47 [.agg (keyL.map bv), .agg (sigL.map bv), .list 1 ⟨false, true, false⟩ [.list 1 ⟨false, true, false⟩ [.int .u8 0]]] [] (.int .i64 9) [] := by
  have h := fSgVerify_spec keyL sigL keyL_len sigL_len [(⟨false, true, false⟩, [0])] ⟨false, true, false⟩ (by decide) (by decide)
  rw [show allB [((⟨false, true, false⟩ : Md), ([0] : List UInt8))] = [0] from rfl, ver3] at h
  exact h
set_option maxRecDepth 100000 in
set_option maxHeartbeats 4000000 in
theorem fSgLives_spec : FSpec Try.prog 44 [] [] (.bool true) [] := by
  have hK := fSgKnown_spec
  have h1 := sV1
  have h2 := sV2
  have h3 := sV3
  have hb := sig_bad
  have hx : bitI .xor .u8 198 4 = 194 := by kernel_rfl
  have hs1 : sigL[40]?.map bv = some (.int .u8 198) := by kernel_rfl
  have hs2 : (sigL.map bv)[40]? = some (.int .u8 198) := by kernel_rfl
  have l1 : (keyL.map bv).length = 32 := by simp [keyL_len]
  have l2 : (sigL.map bv).length = 64 := by simp [sigL_len]
  have l3 : (badL.map bv).length = 64 := by simp [badL_len]
  have t1 : (keyL.map bv).take 32 = keyL.map bv := List.take_of_length_le (by omega)
  have t2 : (sigL.map bv).take 64 = sigL.map bv := List.take_of_length_le (by omega)
  have t3 : (badL.map bv).take 64 = badL.map bv := List.take_of_length_le (by omega)
  have f1 : ∀ n, ltL n (keyL.map bv) = true := fun n => ltL_bv n _
  have f2 : ∀ n, ltL n (sigL.map bv) = true := fun n => ltL_bv n _
  have i1 : idsL (fun _ => false) (keyL.map bv) = true ∧ cleanL (keyL.map bv) = true := by simp
  have i2 : idsL (fun _ => false) (sigL.map bv) = true ∧ cleanL (sigL.map bv) = true := by simp
  have i3 : idsL (fun _ => false) (badL.map bv) = true ∧ cleanL (badL.map bv) = true := by simp
  generalize keyL.map bv = K at *
  generalize sigL.map bv = S at *
  generalize badL.map bv = B at *
  refine FSpec.of_W fSgLives_low (by simp) ?_
  simp only [initEnv]
  simp
  refine WO_callP [] rfl rfl hK (by simp [i1, i2]) (by simp) ?_
  have hat : atF S 40 = ok1 (.int .u8 198) := by simp [atF, hs2]
  simp [l1, l2, t1, t2, hat, hx, hb, t3, l3, i1, i2]
  refine WO_callP [] rfl rfl h1 (by simp [i1, i2]) (by simp) ?_
  simp [l1, l2, t1, t2, t3, l3, i1, i2]
  refine WO_callP [] rfl rfl h2 (by simp [i1, i3]) (by simp) ?_
  simp [l1, l2, t1, t2, t3, l3, i1, i2]
  refine WO_callP [] rfl rfl h3 (by simp [i1, i2]) (by simp) ?_
  simp
  exact fin_W (by simp)
set_option maxRecDepth 100000 in
set_option maxHeartbeats 4000000 in
theorem fSgAny_spec (key sig msg : List UInt8) (hk : key.length = 32) (hs : sig.length = 64) (md : Md) : FSpec Try.prog 10 [.agg (key.map bv), .agg (sig.map bv), .list 1 md (msg.map bv)] [] (.bool true) [] := by
  have hL := fSgLives_spec
  refine FSpec.of_W fSgAny_low (by simp) ?_
  simp only [initEnv]
  simp
  refine WO_callP [] rfl rfl hL (by simp) (by simp) ?_
  by_cases hl : 200 < (msg.length : Int)
  · simp [hl]
    refine WO_callP [] rfl rfl hL (by simp) (by simp) ?_
    simp
    exact fin_W (by simp)
  have kt : List.take 32 (key.map bv) = key.map bv := List.take_of_length_le (by simp [hk])
  have st : List.take 64 (sig.map bv) = sig.map bv := List.take_of_length_le (by simp [hs])
  have hP := fSgVerify_spec key sig hk hs [(md, msg)] ⟨false, true, false⟩ (by simp [allB]; omega) (by simp)
  rw [show allB [(md, msg)] = msg by simp [allB]] at hP
  simp only [List.map_cons, List.map_nil, lsV] at hP
  have hR := fRSgVerify_spec key sig msg hk hs md (by omega)
  simp [hl, hk, hs, kt, st]
  generalize verP key sig msg = v at *
  refine WO_callP [] rfl rfl hP (by simp) (by simp) ?_
  cases v
  · simp [verI, hk, hs, kt, st] at hR ⊢
    refine WO_callP [] rfl rfl hR (by simp) (by simp) ?_
    simp
    exact fin_W (by simp)
  · simp [verI, hk, hs, kt, st] at hR ⊢
    refine WO_callP [] rfl rfl hR (by simp) (by simp) ?_
    simp
    exact fin_W (by simp)
set_option maxRecDepth 100000 in
theorem fSignAny_law : ∀ args, AllFit Try.prog 8 Try.f10.params.toList args → FSpec Try.prog 10 args [] (.bool true) [] := by
  intro args has
  rw [show Try.f10.params.toList = [23, 25, 30] from by rw [Try.params10]] at has
  obtain ⟨a, as1, rfl, h1, has⟩ := all_cons has
  obtain ⟨b, as2, rfl, h2, has⟩ := all_cons has
  obtain ⟨c, as3, rfl, h3, has⟩ := all_cons has
  cases all_nil has
  obtain ⟨l, hl, rfl⟩ := arg_bytesA Try.underlying23 Try.underlying5 h1
  obtain ⟨s, hs, rfl⟩ := arg_bytesA Try.underlying25 Try.underlying5 h2
  obtain ⟨nl, full, x, rfl, hx⟩ := arg_bytes Try.underlying30 Try.underlying5 (by kernel_rfl) (by kernel_rfl) h3
  exact fSgAny_spec l s x hl hs _
end Go.Proofs.Ythgibibeoapfbaa
