/-
  Digests of sixty-four bits a word: of bytes.
-/
import Derived.Test.YthgibibeoapfbaaeG4
set_option linter.unusedSimpArgs false
set_option linter.unnecessarySimpa false
set_option linter.unusedVariables false
set_option linter.unusedSectionVars false
namespace Go.Proofs.Ythgibibeoapfbaa
open Go Go.Fw
attribute [local simp] bv cleanL_bv toBytes_bv ltL_bv atF_drop WS_at_bytes W_nil W_skip W_seq W_reg W_draw W_drawP W_kill W_keep W_block W_blk W_exit W_ret WX_blk WX_c WX_lp WX_li W_li W_condT W_condF W_cond WC_true WC_false
  WR_nil WR_cons WR_o1 WR_o2 o1_chk o2_chk WR_grd WG_tt WG_ff WG_tf WG_ft WG_none WS_some WS_ok1 WSr_no WSr_some WSr_ok1 WSr_at_bytes WH_some WHA_some chkF_cons chkF_nil chkE_some chkE_ok1 chkE_at evF WO_mv WO_pick WO_bin WO_isNil WO_eqA WO_un WO_convI WO_toStr WO_ofStr WO_build WO_buildF WO_load WO_nilCheck WO_fieldAddr WO_field WO_idxA WO_idxS
  WO_ixA WO_slS WO_slA WO_len WO_lenK WO_appF WO_extract WO_s2a WO_iface WO_min WO_max WO_alloc WO_box WO_buildO WO_store WO_appO WO_copy WO_makeS WO_allocA WO_makeA WO_cvt cvtF_slice WO_look lookF_map alAF mkAF WO_func bind1_v bind2_v bindH_v bindH2_v bindS_v okO_v pickO_t pickO_f
  Env.keep Env.get Env.set Env.del Env.dels Env.setO Env.opd Env.opds Env.opdO Env.parts intF aggF fillA splice cleanL AV.clean bndF fldF_one fldF_many toStrF boxF buildOF
  loadF_rptr loadF_rptrN atF_zero atF_succ blk_cons_zero blk_cons_succ loadF_p loadF_pN atB_some atBN_some retPost resL one
  okc_bool cells_bool notStr_bool okc_int cells_int notStr_int okc_str cells_str notStr_str okc_nil cells_nil notStr_nil okc_ptr cells_ptr notStr_ptr okc_rptr cells_rptr notStr_rptr okc_slice cells_slice notStr_slice 
  okc_list cells_list notStr_list okc_func cells_func notStr_func okc_nilFunc cells_nilFunc notStr_nilFunc okc_iface cells_iface notStr_iface okc_nilIface cells_nilIface notStr_nilIface okc_agg cells_agg notStr_agg 
  okc_tuple cells_tuple notStr_tuple lenF_slice lenF_list lenF_str faF_ptr faF_rptr idxSF_slice idxSF_list idxAF_ptr idxAF_rptr ixAF_many ixAF_one convF_int unF_neg unF_xor unF_not nilF_0nil nilF_0ptr nilF_0rptr nilF_1 
  nilF_2nil nilF_2f nilF_3nil nilF_3f binF_int binF_beq binF_bne binF_sadd binF_seq binF_sne sliceCells_list sliceCells_str sliceCells_slice cutC_some szAV_list szAV_str szAV_slice oneSl_list oneSl_slice slSF_sliceS 
  slSF_sliceN slSF_list slAF_rptr slAF_ptr appFF_list appOF_list appOF_sliceN appOF_sliceS storeF_ptr copyF_slice extF_tuple s2aF_slice s2aF_list nchkF_ptr nchkF_rptr nchkF_f mmF_int ofStrF_str mkSF_int eqAF_agg
attribute [local irreducible] W WX WR WO WS WSr WH WHA WG WC FSpec
attribute [local simp] lendAll
attribute [local congr] W_cg WR_cg WO_cg WS_cg WSr_cg WH_cg WHA_cg WG_cg WC_cg WX_cg
attribute [local simp] Env.has AV.wkr wkrL AV.wkr_refl wkrL_refl AV.ltI ltL leHW hasW Env.lt AV.ids idsL AV.sub subL AV.ren AV.frz frzS frzP frzE frzL Heap.frz Blk.frz Blk.ren renL rnS rnP hasR leR idsL_bv subL_bv
attribute [local simp] cleanL_take cleanL_drop ltL_take ltL_drop idsL_take idsL_drop subL_take subL_drop cleanL_append ltL_append idsL_append subL_append
attribute [local simp] renE mvN mvH
attribute [local simp] fwd backH putL bwd
attribute [local simp] u8i u8e List.idxOf_cons
attribute [local simp] hasRW leRW
attribute [local simp] WS_at_map WSr_at_map WS_at_arr WSr_at_arr loadWP splice_full Int.natCast_inj arr_set arr_take arr_zero64 upd_fill fill_zero
theorem fGOf_spec (l : List (Md × List UInt8)) (md : Md) (hl : (allB l).length < 2 ^ 45) (hn : l.length < 2 ^ 45) : FSpec Try.prog 99 [.list 1 md (l.map lsV)] [] (.agg ((dgst F64 (allB l)).map bv)) [] := by
  refine FSpec.of_W fGOf_low (by simp) ?_
  simp only [initEnv]
  simp
  refine WO_callF [] rfl rfl fGNew_spec (by simp) (by simp) (by simp) ?_
  simp [hsh, dat, hC]
  refine W_loop (X := { x : Nat × List UInt8 // x.1 ≤ l.length }) (fun x => [(2, .ptr 0 0), (3, .ptr 1 0), (7, .list 1 md (l.map lsV)), (8, .int .i64 l.length), (9, .int .i64 x.1.1)])
    (fun x => [some ⟨arr .u8 64 fun _ => 0, 150, true⟩, some ⟨hC .u64 (hst F64 (allB (l.take x.1.1))) 2 x.1.2.length (rst 64 (allB (l.take x.1.1))).length (allB (l.take x.1.1)).length, 184, true⟩, dat 64 5 (allB (l.take x.1.1)) x.1.2]) (fun x => l.length - x.1.1) ⟨(0, []), by simp⟩ retPost_le ?_ ?_
  · exact cut_w (by simp [hsh, dat, hC, allB])
  rintro ⟨⟨i, pre⟩, hi⟩
  have hle := allB_le l i
  simp only at hi ⊢
  simp
  refine WC_dec (fun h => ?_) (fun h => ?_)
  · have hil : i < l.length := by omega
    have hc : l[i]? = some l[i] := by simp
    have ht := allB_take l i hil
    have hle2 := allB_le l (i + 1)
    rw [ht, List.length_append] at hle2
    have hw := fGWrite_spec (allB (l.take i)) pre l[i].2 (allB (l.take i)).length l[i].1 (by omega) (by omega)
    rw [← ht] at hw
    obtain ⟨st, hst⟩ : ∃ st, st = allB (l.take i) := ⟨_, rfl⟩
    rw [← hst] at hw ht hle2 ⊢
    simp only [hsh, dat, hC] at hw
    simp [dat, hC, hc, lsV]
    have hlen : (allB (l.take (i + 1))).length = st.length + l[i].2.length := by rw [ht]; simp
    refine ⟨hil, ?_⟩
    refine WO_callF [1, 2] (as' := [.ptr 0 0, .list 1 l[i].1 (l[i].2.map bv)]) rfl (by simp) hw (by simp) (by simp) (by simp) ?_
    simp
    refine ⟨⟨(i + 1, pre2 64 st l[i].2), by simp; omega⟩, by simp; omega, ?_⟩
    refine cut_rw [0, 1, 3] (by simp) rfl (by simp [wrap64s (n := (i : Int) + 1) (by omega) (by omega)]) ?_
    simp [hlen]
  · have : i = l.length := by omega
    subst this
    have hs := fGSum_spec (allB l) pre (by omega)
    simp only [hsh, dat, hC] at hs
    simp [hC, dat]
    refine WO_callF [1, 2] rfl rfl hs (by simp) (by simp) (by simp) ?_
    simp [List.take_of_length_le]
    exact fin_W (by simp)
end Go.Proofs.Ythgibibeoapfbaa
