/-
  Signatures: Verify.
-/
import Derived.Test.YthgibibeoapfbaaeW1
set_option linter.unusedSimpArgs false
set_option linter.unnecessarySimpa false
set_option linter.unusedVariables false
set_option linter.unusedSectionVars false
namespace Go.Proofs.Ythgibibeoapfbaa
open Go Go.Fw
attribute [local simp] bv cleanL_bv toBytes_bv ltL_bv atF_drop WS_at_bytes W_nil W_skip W_seq W_reg W_draw W_drawP W_kill W_keep W_block W_blk W_exit W_ret WX_blk WX_c WX_lp WX_li W_li W_condT W_condF W_cond WC_true WC_false
  WR_nil WR_cons WR_o1 WR_o2 o1_chk o2_chk WR_grd WG_tt WG_ff WG_tf WG_ft WG_none WS_some WS_ok1 WSr_no WSr_some WSr_ok1 WSr_at_bytes WH_some WHA_some chkF_cons chkF_nil chkE_some chkE_ok1 chkE_at evF WO_mv WO_pick WO_bin WO_isNil WO_eqA WO_un WO_convI WO_toStr WO_ofStr WO_build WO_buildF WO_load WO_nilCheck WO_fieldAddr WO_field WO_idxA WO_idxS
  WO_ixA WO_slS WO_slA WO_len WO_lenK WO_appF WO_extract WO_s2a WO_iface WO_min WO_max WO_alloc WO_box WO_buildO WO_store WO_appO WO_copy WO_makeS WO_allocA WO_makeA WO_cvt cvtF_slice WO_look lookF_map alAF mkAF WO_func bind1_v bind2_v bindH_v bindH2_v bindS_v okO_v pickO_t pickO_f
  Env.keep Env.get Env.set Env.del Env.dels Env.setO Env.opd Env.opds Env.opdO Env.parts intF aggF fillA splice cleanL AV.clean bndF fldF_one fldF_many toStrF boxF buildOF
  loadF_rptr loadF_rptrN atF_zero atF_succ blk_cons_zero blk_cons_succ loadF_p loadF_pN atB_some atBN_some retPost resL one
  okc_bool cells_bool notStr_bool okc_int cells_int notStr_int okc_str cells_str notStr_str okc_nil cells_nil notStr_nil okc_ptr cells_ptr notStr_ptr okc_rptr cells_rptr notStr_rptr okc_slice cells_slice notStr_slice 
  okc_list cells_list notStr_list okc_func cells_func notStr_func okc_nilFunc cells_nilFunc notStr_nilFunc okc_iface cells_iface notStr_iface okc_nilIface cells_nilIface notStr_nilIface okc_agg cells_agg notStr_agg 
  okc_tuple cells_tuple notStr_tuple lenF_slice lenF_list lenF_str faF_ptr faF_rptr idxSF_slice idxSF_list idxAF_ptr idxAF_rptr ixAF_many ixAF_one convF_int unF_neg unF_xor unF_not nilF_0nil nilF_0ptr nilF_0rptr nilF_1 
  nilF_2nil nilF_2f nilF_3nil nilF_3f binF_int binF_beq binF_bne binF_sadd binF_seq binF_sne sliceCells_list sliceCells_str sliceCells_slice cutC_some szAV_list szAV_str szAV_slice oneSl_list oneSl_slice slSF_sliceS 
  slSF_sliceN slSF_list slAF_rptr slAF_ptr appFF_list appOF_list appOF_sliceN appOF_sliceS storeF_ptr copyF_slice extF_tuple s2aF_slice s2aF_list nchkF_ptr nchkF_rptr nchkF_f mmF_int ofStrF_str mkSF_int eqAF_agg
attribute [local irreducible] W WX WR WO WS WSr WH WHA WG WC FSpec
attribute [local simp] lendAll
attribute [local congr] W_cg WR_cg WO_cg WS_cg WSr_cg WH_cg WHA_cg WG_cg WC_cg WX_cg
attribute [local simp] Env.has AV.wkr wkrL AV.wkr_refl wkrL_refl AV.ltI ltL leHW hasW Env.lt AV.ids idsL AV.sub subL AV.ren AV.frz frzS frzP frzE frzL Heap.frz Blk.frz Blk.ren renL rnS rnP hasR leR idsL_bv subL_bv
attribute [local simp] cleanL_take cleanL_drop ltL_take ltL_drop idsL_take idsL_drop subL_take subL_drop cleanL_append ltL_append idsL_append subL_append
attribute [local simp] renE mvN mvH
attribute [local simp] fwd backH putL bwd
attribute [local simp] u8i u8e List.idxOf_cons
attribute [local simp] hasRW leRW
attribute [local simp] WS_at_map WSr_at_map loadWP splice_full Int.natCast_inj
/-- Whether bytes are a key's signature of others. -/
noncomputable def verP (key sig msg : List UInt8) : Bool :=
  match decE (byN key) with
  | none => false
  | some (ax, ay) => match decE (byN (sig.take 32)) with
    | none => false
    | some (rx, ry) => if byN (sig.drop 32) < Lq then sameE (pB (byN (sig.drop 32))) (addE [atE rx ry, timesE (wholeE (atE ax ay)) (hashN (sig.take 32 ++ (key ++ msg))) 256]) else false
noncomputable def verI (b : Bool) : Int := if b then 0 else 9
set_option maxRecDepth 100000 in
set_option maxHeartbeats 4000000 in
theorem fSgVerify_spec (key sig : List UInt8) (hk : key.length = 32) (hs : sig.length = 64) (l : List (Md × List UInt8)) (md : Md) (hl : (allB l).length < 2 ^ 39) (hn : l.length < 2 ^ 39) : FSpec Try.prog 47 [.agg (key.map bv), .agg (sig.map bv), .list 1 md (l.map lsV)] [] (.int .i64 (verI (verP key sig (allB l)))) [] := by
  have d1 := fCvDecode_spec key hk
  have d2 := fCvDecode_spec (sig.take 32) (by simp [hs])
  have d3 := fDecode_spec (sig.drop 32) (by simp [hs])
  have kt : List.take 32 (key.map bv) = key.map bv := List.take_of_length_le (by simp [hk])
  rw [List.map_take] at d2
  rw [List.map_drop] at d3
  have kt3 : List.take 32 (List.drop 32 (sig.map bv)) = List.drop 32 (sig.map bv) := List.take_of_length_le (by simp [hs])
  have hO := fCvBase_spec
  have t1 := fCvTimes_spec (atE (toF baseX) (toF baseY)) (byN (sig.drop 32))
  rw [show timesE (wholeE (atE (toF baseX) (toF baseY))) (byN (sig.drop 32)) 256 = pB (byN (sig.drop 32)) from rfl] at t1
  have hG := fGOf_spec ([(⟨false, false, false⟩, sig.take 32), (⟨false, true, false⟩, key)] ++ l) ⟨false, false, false⟩ (by simp [allB, hs, hk] at *; omega) (by simp; omega)
  have hAll : allB ([(⟨false, false, false⟩, sig.take 32), (⟨false, true, false⟩, key)] ++ l) = sig.take 32 ++ (key ++ allB l) := by simp [allB]
  rw [hAll] at hG
  have hR := fReduce_spec (dgst F64 (sig.take 32 ++ (key ++ allB l))) ⟨false, true, true⟩ (by simp)
  have hdl : (dgst F64 (sig.take 32 ++ (key ++ allB l))).length = 64 := by simp
  rw [show byN (dgst F64 (sig.take 32 ++ (key ++ allB l))) % Lq = hashN (sig.take 32 ++ (key ++ allB l)) from rfl] at hR
  unfold verP
  generalize hashN (sig.take 32 ++ (key ++ allB l)) = k at *
  generalize dgst F64 (sig.take 32 ++ (key ++ allB l)) = D at *
  generalize atE (toF baseX) (toF baseY) = B at *
  generalize byN (sig.drop 32) = n at *
  generalize pB n = p at *
  refine FSpec.of_W (c := (.seq (.reg fSgVerify_r0) (.seq (.reg fSgVerify_r1) (.seq (.seq (.reg fSgVerify_r2) (.cond (.t 18) fSgVerify_k0 (.kill [18] .skip))) (.kill [6, 8, 17, 18] (.seq (.reg fSgVerify_r4) (.seq (.seq (.reg fSgVerify_r5) (.cond (.t 27) fSgVerify_k1 (.kill [27] .skip))) (.kill [6, 8, 26, 27] (.seq (.reg fSgVerify_r7) (.seq (.seq (.reg fSgVerify_r8) (.cond (.t 36) fSgVerify_k2 (.kill [36] .skip))) (.cut (.kill [6, 8, 35, 36] (.seq (.draw fSgVerify_r10) (.seq (.seq (.draw fSgVerify_r11) (.cond (.t 54) fSgVerify_k3 (.keep [] .skip))) (.keep [] (.seq (.reg fSgVerify_r13) .ret)))))))))))))))) fSgVerify_low (by simp) ?_
  simp only [initEnv]
  simp [hk, hs, kt]
  generalize decE (byN key) = A at *
  obtain _ | ⟨ax, ay⟩ := A
  · simp only at d1 ⊢
    simp only [ptC, List.append_assoc] at d1
    refine WO_callP [] rfl rfl d1 (by simp [q4]) (by simp [q4]) ?_
    simp [q4]
    exact fin_W (by simp [verI])
  simp only at d1 ⊢
  have u1 := fCvTimes_spec (atE ax ay) k
  generalize timesE (wholeE (atE ax ay)) k 256 = kA at *
  generalize atE ax ay = A at *
  simp only [ptC, List.append_assoc] at d1 u1
  refine WO_callP [] rfl rfl d1 (by simp [q4]) (by simp [q4]) ?_
  simp [q4, hs, kt]
  generalize decE (byN (sig.take 32)) = R at *
  obtain _ | ⟨rx, ry⟩ := R
  · simp only at d2 ⊢
    simp only [ptC, List.append_assoc] at d2
    refine WO_callP [] rfl rfl d2 (by simp [q4]) (by simp [q4]) ?_
    simp [q4]
    exact fin_W (by simp [verI])
  simp only at d2 ⊢
  generalize atE rx ry = R at *
  simp only [ptC, List.append_assoc] at d2
  refine WO_callP [] rfl rfl d2 (by simp [q4]) (by simp [q4]) ?_
  simp [q4, hs, kt, kt3]
  unfold decQ at d3
  by_cases hnL : n < Lq
  · rw [if_pos hnL] at d3
    have a1 := fCvAdd_spec [R, kA] ⟨false, true, false⟩ (by simp)
    rw [ptL2] at a1
    generalize addE [R, kA] = Y at *
    have s1 := fCvSame_spec p Y
    generalize sameE p Y = z at *
    generalize Lq = L at *
    simp only [ptC, List.append_assoc] at a1 s1 t1 hO u1
    refine WO_callP [] rfl rfl d3 (by simp [q4]) (by simp [q4]) ?_
    simp [q4, hs, kt, kt3, hnL]
    refine W_cut (cut_trans (cut_frz 0 rfl) (cut_frz 1 rfl)) ?_
    simp [q4, hs, kt, kt3, hnL]
    refine ⟨by omega, ⟨by omega, by omega⟩, ?_⟩
    simp only [List.map_append, List.map_cons, List.map_nil, lsV, List.cons_append, List.nil_append, List.map_take] at hG
    refine WO_callQ rfl hG (by simp) ?_
    simp [q4, hs, kt, kt3, hdl]
    refine ⟨⟨⟨by omega, by omega⟩, by omega⟩, ?_⟩
    refine WO_callP [] rfl rfl hO (by simp [q4]) (by simp [q4, hdl]) ?_
    simp [q4]
    refine WO_callP [] rfl rfl t1 (by simp [q4]) (by simp [q4, hdl]) ?_
    simp [q4]
    refine WO_callP [5] (as' := [.list 1 ⟨false, true, true⟩ (D.map bv)]) rfl (by simp [hdl, List.take_of_length_le]) hR (by simp [q4]) (by simp [q4, hdl]) ?_
    simp [q4]
    refine WO_callP [] rfl rfl u1 (by simp [q4]) (by simp [q4, hdl]) ?_
    simp [q4]
    refine WO_callP [] rfl rfl a1 (by simp [q4]) (by simp [q4, hdl]) ?_
    simp [q4]
    refine WO_callP [] rfl rfl s1 (by simp [q4]) (by simp [q4, hdl]) ?_
    cases z
    · simp
      exact fin_W (by simp [verI])
    · simp
      exact fin_W (by simp [verI])
  · rw [if_neg hnL] at d3
    refine WO_callP [] rfl rfl d3 (by simp [q4]) (by simp [q4, hdl]) ?_
    simp [q4, hnL]
    exact fin_W (by simp [verI])
end Go.Proofs.Ythgibibeoapfbaa
