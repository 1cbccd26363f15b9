/-
  Digests of sixty-four bits a word: hashes.
-/
import Derived.Test.YthgibibeoapfbaaeG2
set_option linter.unusedSimpArgs false
set_option linter.unnecessarySimpa false
set_option linter.unusedVariables false
set_option linter.unusedSectionVars false
namespace Go.Proofs.Ythgibibeoapfbaa
open Go Go.Fw
attribute [local simp] bv cleanL_bv toBytes_bv ltL_bv atF_drop WS_at_bytes W_nil W_skip W_seq W_reg W_draw W_drawP W_kill W_keep W_block W_blk W_exit W_ret WX_blk WX_c WX_lp WX_li W_li W_condT W_condF W_cond WC_true WC_false
  WR_nil WR_cons WR_o1 WR_o2 o1_chk o2_chk WR_grd WG_tt WG_ff WG_tf WG_ft WG_none WS_some WS_ok1 WSr_no WSr_some WSr_ok1 WSr_at_bytes WH_some WHA_some chkF_cons chkF_nil chkE_some chkE_ok1 chkE_at evF WO_mv WO_pick WO_bin WO_isNil WO_eqA WO_un WO_convI WO_toStr WO_ofStr WO_build WO_buildF WO_load WO_nilCheck WO_fieldAddr WO_field WO_idxA WO_idxS
  WO_ixA WO_slS WO_slA WO_len WO_lenK WO_appF WO_extract WO_s2a WO_iface WO_min WO_max WO_alloc WO_box WO_buildO WO_store WO_appO WO_copy WO_makeS WO_allocA WO_makeA WO_cvt cvtF_slice WO_look lookF_map alAF mkAF WO_func bind1_v bind2_v bindH_v bindH2_v bindS_v okO_v pickO_t pickO_f
  Env.keep Env.get Env.set Env.del Env.dels Env.setO Env.opd Env.opds Env.opdO Env.parts intF aggF fillA splice cleanL AV.clean bndF fldF_one fldF_many toStrF boxF buildOF
  loadF_rptr loadF_rptrN atF_zero atF_succ blk_cons_zero blk_cons_succ loadF_p loadF_pN atB_some atBN_some retPost resL one
  okc_bool cells_bool notStr_bool okc_int cells_int notStr_int okc_str cells_str notStr_str okc_nil cells_nil notStr_nil okc_ptr cells_ptr notStr_ptr okc_rptr cells_rptr notStr_rptr okc_slice cells_slice notStr_slice 
  okc_list cells_list notStr_list okc_func cells_func notStr_func okc_nilFunc cells_nilFunc notStr_nilFunc okc_iface cells_iface notStr_iface okc_nilIface cells_nilIface notStr_nilIface okc_agg cells_agg notStr_agg 
  okc_tuple cells_tuple notStr_tuple lenF_slice lenF_list lenF_str faF_ptr faF_rptr idxSF_slice idxSF_list idxAF_ptr idxAF_rptr ixAF_many ixAF_one convF_int unF_neg unF_xor unF_not nilF_0nil nilF_0ptr nilF_0rptr nilF_1 
  nilF_2nil nilF_2f nilF_3nil nilF_3f binF_int binF_beq binF_bne binF_sadd binF_seq binF_sne sliceCells_list sliceCells_str sliceCells_slice cutC_some szAV_list szAV_str szAV_slice oneSl_list oneSl_slice slSF_sliceS 
  slSF_sliceN slSF_list slAF_rptr slAF_ptr appFF_list appOF_list appOF_sliceN appOF_sliceS storeF_ptr copyF_slice extF_tuple s2aF_slice s2aF_list nchkF_ptr nchkF_rptr nchkF_f mmF_int ofStrF_str mkSF_int eqAF_agg
attribute [local irreducible] W WX WR WO WS WSr WH WHA WG WC FSpec
attribute [local simp] lendAll
attribute [local congr] W_cg WR_cg WO_cg WS_cg WSr_cg WH_cg WHA_cg WG_cg WC_cg WX_cg
attribute [local simp] Env.has AV.wkr wkrL AV.wkr_refl wkrL_refl AV.ltI ltL leHW hasW Env.lt AV.ids idsL AV.sub subL AV.ren AV.frz frzS frzP frzE frzL Heap.frz Blk.frz Blk.ren renL rnS rnP hasR leR idsL_bv subL_bv
attribute [local simp] cleanL_take cleanL_drop ltL_take ltL_drop idsL_take idsL_drop subL_take subL_drop cleanL_append ltL_append idsL_append subL_append
attribute [local simp] renE mvN mvH
attribute [local simp] fwd backH putL bwd
attribute [local simp] u8i u8e List.idxOf_cons
attribute [local simp] hasRW leRW
attribute [local simp] WS_at_map WSr_at_map WS_at_arr WSr_at_arr loadWP splice_full Int.natCast_inj arr_set arr_take
theorem fGNew_spec : FSpec Try.prog 128 [] [] (.ptr 0 0) [hsh F64 .u64 184 1 [] [] 0, dat 64 5 [] []] := by
  refine FSpec.of_W fGNew_low (by simp) ?_
  simp only [initEnv]
  simp
  refine fin_ghostB 0 8 1 5 (by simp) rfl rfl rfl ?_
  refine fin_W ?_
  have e : hC .u64 (hst F64 []) 1 0 0 0 = [.int .u64 7640891576956012808, .int .u64 13503953896175478587, .int .u64 4354685564936845355, .int .u64 11912009170470909681, .int .u64 5840696475078001361, .int .u64 11170449401992604703, .int .u64 2270897969802886507, .int .u64 6620516959819538809, .slice 1 1 0 0 none, .int .u64 0] := by kernel_rfl
  simp [hsh, dat, rst_nil, e]
/-- A step over bytes that are one's own. -/
theorem fGStep_own (s : St8 64) (D : List UInt8) (a o l n : Nat) (h : a + 128 ≤ D.length) :
    FSpec Try.prog 135 [.ptr 0 0, .slice 1 1 a 128 none] [some ⟨hC .u64 s 1 o l n, 184, true⟩, some ⟨D.map bv, 5, false⟩] (.tuple []) [some ⟨hC .u64 (comp F64 s ((D.drop a).take 128)) 1 o l n, 184, true⟩, some ⟨D.map bv, 5, false⟩] := by
  refine FSpec.lend (id := 1) (b := ⟨D.map bv, 5, false⟩) (H' := [some ⟨hC .u64 (comp F64 s ((D.drop a).take 128)) 1 o l n, 184, true⟩, none]) rfl (.inl ?_) rfl (by simp) ?_
  · intro hn
    have : D = [] := by simpa using hn
    subst this; simp at h
  · have e := fGStep_spec s ((D.drop a).take 128) ⟨false, false, true⟩ (by simp; omega) o l n
    simp [h]
    simpa using e
theorem fGWrite_spec (st pre b : List UInt8) (n : Nat) (md : Md) (hl : b.length < 2 ^ 46) (hn : n + b.length < 2 ^ 47) : FSpec Try.prog 129 [.ptr 0 0, .list 1 md (b.map bv)] [hsh F64 .u64 184 1 st pre n, dat 64 5 st pre] (.tuple [])
    [hsh F64 .u64 184 2 (st ++ b) (pre2 64 st b) (n + b.length), none, dat 64 5 (st ++ b) (pre2 64 st b)] := by
  have hr := rst_len (m := 64) st
  have hap := hst_append F64 st b (by decide)
  have hp2 := pre2_rst (m := 64) (by decide) st b
  have hpl := pre2_len (m := 64) st b
  obtain ⟨l, hlq⟩ : ∃ l, l = rst 64 st ++ b := ⟨_, rfl⟩
  have hll : l.length = (rst 64 st).length + b.length := by rw [hlq]; simp
  refine FSpec.of_W fGWrite_low (by simp) ?_
  simp only [initEnv]
  simp [hsh, dat, hC, List.take_of_length_le]
  have en : IntKind.u64.wrap ((n : Int) + IntKind.u64.wrap (b.length : Int)) = ((n + b.length : Nat) : Int) := by
    rw [wrapu64, Nat.mod_eq_of_lt (by omega), ← Int.natCast_add, wrapu64, Nat.mod_eq_of_lt (by omega)]
  obtain ⟨N, hN⟩ : ∃ N, N = n + b.length := ⟨_, rfl⟩
  rw [← hN] at en
  refine ⟨by omega, ?_⟩
  refine W_loop (X := { k : Nat // 128 * k ≤ l.length }) (fun i => [(0, .ptr 0 0)]) (fun i => [some ⟨hC .u64 (runB F64 i.1 (hst F64 st) l) 2 (128 * i.1) (l.length - 128 * i.1) N, 184, true⟩, none, some ⟨l.map bv, 5, false⟩]) (fun i => l.length - 128 * i.1) ⟨0, by omega⟩ retPost_le ?_ ?_
  · exact cut_w (by simp [hC, hlq, en, runB])
  rintro ⟨k, hk⟩
  simp only
  simp [hC]
  refine WC_dec (fun h => ?_) (fun h => ?_)
  · have h64 : 128 ≤ l.length - 128 * k := by omega
    have hs := fGStep_own (runB F64 k (hst F64 st) l) l (128 * k) (128 * k) (l.length - 128 * k) N (by omega)
    have hk2 : comp F64 (runB F64 k (hst F64 st) l) ((l.drop (128 * k)).take 128) = runB F64 (k + 1) (hst F64 st) l := (runB_succ F64 k (hst F64 st) l).symm
    rw [hk2] at hs
    simp [h64]
    refine ⟨h, ?_⟩
    refine WO_callF [0, 2] rfl rfl hs (by simp) (by simp [hC]) (by simp) ?_
    simp [hC, h64]
    refine ⟨by omega, ?_⟩
    refine ⟨⟨k + 1, by omega⟩, by simp; omega, ?_⟩
    refine cut_rw [0, 1, 2] (by simp) rfl (by simp) ?_
    simp
    omega
  · have hkq : k = l.length / 128 := by omega
    rw [← hlq, show 2 * 64 = 128 from rfl, ← hkq] at hap hpl
    rw [← hlq] at hp2
    have hrl : (rst 64 (st ++ b)).length = l.length - 128 * k := by rw [← hap.2]; simp
    have hd : l.map bv = (pre2 64 st b).map bv ++ (rst 64 (st ++ b)).map bv := by rw [← hp2]; simp
    simp
    refine fin_W ?_
    simp [hap.1, hpl, hrl, hd, hN]
end Go.Proofs.Ythgibibeoapfbaa
