/-
  Packets: the laws.
-/
import Derived.Test.YthgibibeoapfbaaeP6
set_option linter.unusedSimpArgs false
set_option linter.unusedVariables false
set_option linter.unusedSectionVars false
namespace Go.Proofs.Ythgibibeoapfbaa
open Go Go.Fw
attribute [local simp] bv cleanL_bv toBytes_bv ltL_bv atF_drop WS_at_bytes W_nil W_skip W_seq W_reg W_draw W_drawP W_kill W_keep W_block W_blk W_exit W_ret WX_blk WX_c WX_lp WX_li W_li W_condT W_condF W_cond WC_true WC_false
  WR_nil WR_cons WR_o1 WR_o2 o1_chk o2_chk WR_grd WG_tt WG_ff WG_tf WG_ft WG_none WS_some WS_ok1 WSr_no WSr_some WSr_ok1 WSr_at_bytes WH_some WHA_some chkF_cons chkF_nil chkE_some chkE_ok1 chkE_at evF WO_mv WO_pick WO_bin WO_isNil WO_eqA WO_un WO_convI WO_toStr WO_ofStr WO_build WO_buildF WO_load WO_nilCheck WO_fieldAddr WO_field WO_idxA WO_idxS
  WO_ixA WO_slS WO_slA WO_len WO_lenK WO_appF WO_extract WO_s2a WO_iface WO_min WO_max WO_alloc WO_box WO_buildO WO_store WO_appO WO_copy WO_makeS WO_allocA WO_makeA WO_cvt cvtF_slice WO_look lookF_map alAF mkAF WO_func bind1_v bind2_v bindH_v bindH2_v bindS_v okO_v pickO_t pickO_f
  Env.keep Env.get Env.set Env.del Env.dels Env.setO Env.opd Env.opds Env.opdO Env.parts intF aggF fillA splice cleanL AV.clean bndF fldF_one fldF_many toStrF boxF buildOF
  loadF_rptr loadF_rptrN atF_zero atF_succ blk_cons_zero blk_cons_succ loadF_p loadF_pN atB_some atBN_some retPost resL one
  okc_bool cells_bool notStr_bool okc_int cells_int notStr_int okc_str cells_str notStr_str okc_nil cells_nil notStr_nil okc_ptr cells_ptr notStr_ptr okc_rptr cells_rptr notStr_rptr okc_slice cells_slice notStr_slice 
  okc_list cells_list notStr_list okc_func cells_func notStr_func okc_nilFunc cells_nilFunc notStr_nilFunc okc_iface cells_iface notStr_iface okc_nilIface cells_nilIface notStr_nilIface okc_agg cells_agg notStr_agg 
  okc_tuple cells_tuple notStr_tuple lenF_slice lenF_list lenF_str faF_ptr faF_rptr idxSF_slice idxSF_list idxAF_ptr idxAF_rptr ixAF_many ixAF_one convF_int unF_neg unF_xor unF_not nilF_0nil nilF_0ptr nilF_0rptr nilF_1 
  nilF_2nil nilF_2f nilF_3nil nilF_3f binF_int binF_beq binF_bne binF_sadd binF_seq binF_sne sliceCells_list sliceCells_str sliceCells_slice cutC_some szAV_list szAV_str szAV_slice oneSl_list oneSl_slice slSF_sliceS 
  slSF_sliceN slSF_list slAF_rptr slAF_ptr appFF_list appOF_list appOF_sliceN appOF_sliceS storeF_ptr copyF_slice extF_tuple s2aF_slice s2aF_list nchkF_ptr nchkF_rptr nchkF_f mmF_int ofStrF_str mkSF_int eqAF_agg
attribute [local irreducible] W WX WR WO WS WSr WH WHA WG WC FSpec
attribute [local simp] lendAll
attribute [local congr] W_cg WR_cg WO_cg WS_cg WSr_cg WH_cg WHA_cg WG_cg WC_cg WX_cg
attribute [local simp] Env.has AV.wkr wkrL AV.wkr_refl wkrL_refl AV.ltI ltL leHW hasW Env.lt AV.ids idsL AV.sub subL AV.ren AV.frz frzS frzP frzE frzL Heap.frz Blk.frz Blk.ren renL rnS rnP hasR leR idsL_bv subL_bv
attribute [local simp] cleanL_take cleanL_drop ltL_take ltL_drop idsL_take idsL_drop subL_take subL_drop cleanL_append ltL_append idsL_append subL_append
attribute [local simp] renE mvN mvH
attribute [local simp] fwd backH putL bwd
attribute [local simp] u8i u8e List.idxOf_cons
attribute [local simp] hasRW leRW
attribute [local simp] WS_at_map WSr_at_map WS_at_arr WSr_at_arr loadWP splice_full Int.natCast_inj
theorem pkP_load (p : Pkt) (hp : p.Ok) : (pkP p).length = 100 ∧ (pkP p).take 100 = pkP p ∧ cleanL (pkP p) = true ∧ idsL (fun _ => false) (pkP p) = true := by
  have hh := hp.hash
  have hs := hp.sig
  have hl : (pkP p).length = 100 := by simp [pkP, hh, hs]
  exact ⟨hl, List.take_of_length_le (by omega), by simp [pkP], by simp [pkP]⟩
def p0 : Pkt := ⟨7, 0, 9, 0, List.replicate 32 0, List.replicate 64 0⟩
theorem p0_ok : p0.Ok := by constructor <;> simp [p0]
theorem p0_cells : pkP p0 = ([.int .u32 7, .int .u8 0, .int .u32 0, .int .u32 9, .int .u8 0, .int .u8 0, .int .u8 0, .int .u8 0, .int .u8 0, .int .u8 0, .int .u8 0, .int .u8 0, .int .u8 0, .int .u8 0, .int .u8 0, .int .u8 0, .int .u8 0, .int .u8 0, .int .u8 0, .int .u8 0, .int .u8 0, .int .u8 0, .int .u8 0, .int .u8 0, .int .u8 0, .int .u8 0, .int .u8 0, .int .u8 0, .int .u8 0, .int .u8 0, .int .u8 0, .int .u8 0, .int .u8 0, .int .u8 0, .int .u8 0, .int .u8 0, .int .u8 0, .int .u8 0, .int .u8 0, .int .u8 0, .int .u8 0, .int .u8 0, .int .u8 0, .int .u8 0, .int .u8 0, .int .u8 0, .int .u8 0, .int .u8 0, .int .u8 0, .int .u8 0, .int .u8 0, .int .u8 0, .int .u8 0, .int .u8 0, .int .u8 0, .int .u8 0, .int .u8 0, .int .u8 0, .int .u8 0, .int .u8 0, .int .u8 0, .int .u8 0, .int .u8 0, .int .u8 0, .int .u8 0, .int .u8 0, .int .u8 0, .int .u8 0, .int .u8 0, .int .u8 0, .int .u8 0, .int .u8 0, .int .u8 0, .int .u8 0, .int .u8 0, .int .u8 0, .int .u8 0, .int .u8 0, .int .u8 0, .int .u8 0, .int .u8 0, .int .u8 0, .int .u8 0, .int .u8 0, .int .u8 0, .int .u8 0, .int .u8 0, .int .u8 0, .int .u8 0, .int .u8 0, .int .u8 0, .int .u8 0, .int .u8 0, .int .u8 0, .int .u8 0, .int .u8 0, .int .u8 0, .int .u8 0, .int .u8 0, .int .u8 0] : List AV) := rfl
theorem fPLives_spec : FSpec Try.prog 12 [] [] (.bool true) [] := by
  refine FSpec.of_W fPLives_low (by simp) ?_
  simp only [initEnv]
  simp
  have h1 := fPEncode_spec p0 p0_ok
  have h2 := fPParse_spec (pkB p0) ⟨false, false, false⟩ (by rw [pkB_len p0 p0_ok]; omega)
  have h3 := fPSigned_spec p0 p0_ok
  rw [parse_pkB p0 p0_ok] at h2
  rw [p0_cells] at h1 h3
  have hl := pkB_len p0 p0_ok
  have hl2 := sgnB_len p0 p0_ok
  refine WO_callP [] rfl rfl h1 (by simp) (by simp) ?_
  simp
  refine WO_callP [] rfl rfl h2 (by simp [pkPR, p0_cells]) (by simp) ?_
  simp [pkPR, p0_cells, hl]
  refine WO_callP [] rfl rfl h3 (by simp) (by simp) ?_
  simp [hl2]
  exact ⟨rfl, fin_W (by simp)⟩
theorem hasK_pkR (p : Pkt) (hp : p.Ok) : hasK (.u32 :: .u32 :: .u32 :: .u8 :: List.replicate 96 .u8) (pkR p) = true := by
  have := hasK_bytes (p.hash ++ p.sig) (m := 96) (by simp [hp.hash, hp.sig])
  rw [List.map_append] at this
  simp only [pkR, hasK, decide_true, Bool.true_and]
  exact this
theorem hasK_pkP (p : Pkt) (hp : p.Ok) : hasK (.u32 :: .u8 :: .u32 :: .u32 :: List.replicate 96 .u8) (pkP p) = true := by
  have := hasK_bytes (p.hash ++ p.sig) (m := 96) (by simp [hp.hash, hp.sig])
  rw [List.map_append] at this
  simp only [pkP, hasK, decide_true, Bool.true_and]
  exact this
theorem fPParses_spec (b : List UInt8) (md : Md) : FSpec Try.prog 4 [.list 1 md (b.map bv)] [] (.bool true) [] := by
  refine FSpec.of_W fPParses_low (by simp) ?_
  simp only [initEnv]
  simp
  refine WO_callP [] rfl rfl fPLives_spec (by simp) (by simp) ?_
  by_cases hl : 500 < (b.length : Int)
  · simp [hl]
    refine WO_callP [] rfl rfl fPLives_spec (by simp) (by simp) ?_
    simp
    exact fin_W (by simp)
  simp [hl]
  have h1 := fPParse_spec b md (by omega)
  have h2 := fPRParse_spec b md (by omega)
  obtain ⟨r, hr⟩ : ∃ r, r = parsePk b := ⟨_, rfl⟩
  have hok : r.1.Ok := by
    rw [hr, parsePk]; split
    · exact rd_ok b (by rename_i h; exact h.1)
    · exact z0_ok
  rw [← hr] at h1 h2
  obtain ⟨q, e⟩ := r
  simp only at hok
  refine WO_callP [] rfl rfl h1 (by simp [pkPR, pkP_load q hok]) (by simp) ?_
  simp [pkPR, pkP_load q hok]
  refine WO_callP [] rfl rfl h2 (by simp [pkRR, pkR_load q hok]) (by simp) ?_
  simp [pkRR, pkR_load q hok]
  refine ⟨by rw [(pkP_load q hok).1]; exact Nat.le_refl _, ?_⟩
  refine WO_callP (as' := [.agg (pkP q)]) [] rfl (by simp [pkP_load q hok]) (fPOf_spec q hok) (by simp [pkP_load q hok, pkR_load q hok]) (by simp [pkR_load q hok]) ?_
  simp [pkR_load q hok]
  exact ⟨hasK_pkR q hok, fin_W (by simp)⟩
set_option maxRecDepth 100000 in
theorem fPacketParses_law : ∀ args, AllFit Try.prog 8 Try.f4.params.toList args → FSpec Try.prog 4 args [] (.bool true) [] := by
  intro args has
  rw [show Try.f4.params.toList = [30] from by rw [Try.params4]] at has
  obtain ⟨a, as1, rfl, h1, has⟩ := all_cons has
  cases all_nil has
  obtain ⟨nl, full, x, rfl, hx⟩ := arg_bytes Try.underlying30 Try.underlying5 (by kernel_rfl) (by kernel_rfl) h1
  exact fPParses_spec x _
theorem fPBytes_spec (p : Pkt) (hp : p.Ok) : FSpec Try.prog 3 [.agg (pkP p)] [] (.bool true) [] := by
  refine FSpec.of_W fPBytes_low (by simp) ?_
  simp only [initEnv]
  simp [pkP_load p hp]
  refine WO_callP [] rfl rfl fPLives_spec (by simp) (by simp) ?_
  simp [pkP_load p hp]
  have h2 := fPParse_spec (pkB p) ⟨false, false, false⟩ (by rw [pkB_len p hp]; omega)
  rw [parse_pkB p hp] at h2
  refine WO_callP [] rfl rfl (fPEncode_spec p hp) (by simp [pkP_load p hp]) (by simp) ?_
  simp
  refine WO_callP [] rfl rfl h2 (by simp [pkPR, pkP_load p hp]) (by simp) ?_
  simp [pkPR, pkP_load p hp]
  refine WO_callP [] rfl rfl (fPOf_spec p hp) (by simp [pkR_load p hp, pkP_load p hp]) (by simp) ?_
  simp [pkR_load p hp, pkP_load p hp]
  refine WO_callP [] rfl rfl (fPREncode_spec p hp) (by simp [pkR_load p hp]) (by simp [pkP_load p hp]) ?_
  simp [pkR_load p hp, pkP_load p hp]
  refine WO_callP [] rfl rfl (fPSigned_spec p hp) (by simp [pkP_load p hp]) (by simp [pkP_load p hp]) ?_
  simp [pkR_load p hp, pkP_load p hp]
  refine WO_callP [] rfl rfl (fPOf_spec p hp) (by simp [pkR_load p hp, pkP_load p hp]) (by simp [pkP_load p hp]) ?_
  simp [pkR_load p hp, pkP_load p hp]
  refine WO_callP [] rfl rfl (fPRSigned_spec p hp) (by simp [pkR_load p hp]) (by simp [pkP_load p hp]) ?_
  simp [pkR_load p hp, pkP_load p hp]
  exact ⟨hasK_pkP p hp, fin_W (by simp)⟩
set_option maxRecDepth 100000 in
theorem fit_u32 {t : TypeId} {n : Nat} {xs : List AV} (h : Try.prog.underlying t = some (.int .u32)) (hf : Fit Try.prog (n + 1) t xs) : ∃ k : Nat, k < 2 ^ 32 ∧ xs = [.int .u32 (k : Nat)] := by
  obtain ⟨m, m1, m2, rfl⟩ := fit_int h hf
  simp [IntKind.min, IntKind.max, IntKind.signed, IntKind.bits] at m1 m2
  exact ⟨m.toNat, by omega, by rw [show ((m.toNat : Nat) : Int) = m by omega]⟩
set_option maxRecDepth 100000 in
theorem arg_pkt {a : AV} (h1 : ArgFit Try.prog 8 28 a) : ∃ p : Pkt, p.Ok ∧ a = .agg (pkP p) := by
  obtain ⟨xs, rfl, h⟩ := arg_struct Try.underlying28 h1
  obtain ⟨x1, y1, rfl, g1, x2, y2, rfl, g2, x3, y3, rfl, g3, x4, y4, rfl, g4, x5, y5, rfl, g5, x6, y6, rfl, g6, rfl⟩ := h
  obtain ⟨n1, k1, rfl⟩ := fit_u32 Try.underlying22 g1
  obtain ⟨ty, rfl⟩ := fit_u8 Try.underlying5 g2
  obtain ⟨n3, k3, rfl⟩ := fit_u32 Try.underlying22 g3
  obtain ⟨n4, k4, rfl⟩ := fit_u32 Try.underlying22 g4
  obtain ⟨h, hh, rfl⟩ := fit_bytesA Try.underlying23 Try.underlying5 g5
  obtain ⟨s, hs, rfl⟩ := fit_bytesA Try.underlying25 Try.underlying5 g6
  exact ⟨⟨n1, n3, n4, ty, h, s⟩, ⟨k1, k3, k4, hh, hs⟩, by simp [pkP]⟩
set_option maxRecDepth 100000 in
theorem fPacketBytes_law : ∀ args, AllFit Try.prog 8 Try.f3.params.toList args → FSpec Try.prog 3 args [] (.bool true) [] := by
  intro args has
  rw [show Try.f3.params.toList = [28] from by rw [Try.params3]] at has
  obtain ⟨a, as1, rfl, h1, has⟩ := all_cons has
  cases all_nil has
  obtain ⟨p, hp, rfl⟩ := arg_pkt h1
  exact fPBytes_spec p hp
end Go.Proofs.Ythgibibeoapfbaa
