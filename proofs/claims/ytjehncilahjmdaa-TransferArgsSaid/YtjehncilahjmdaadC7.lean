/-
  Settings: the example and the arguments
-/
import Derived.Test.YtjehncilahjmdaadC6
set_option linter.unusedSimpArgs false
set_option linter.unnecessarySimpa false
set_option linter.unusedVariables false
set_option linter.unusedSectionVars false
namespace Go.Proofs.Ytjehncilahjmdaa
open Go Go.Fw
attribute [local simp] bv cleanL_bv toBytes_bv ltL_bv atF_drop WS_at_bytes W_nil W_skip W_seq W_reg W_draw W_drawP W_kill W_keep W_block W_blk W_exit W_ret WX_blk WX_c WX_lp WX_li W_li W_condT W_condF W_cond WC_true WC_false
  WR_nil WR_cons WR_o1 WR_o2 o1_chk o2_chk WR_grd WG_tt WG_ff WG_tf WG_ft WG_none WS_some WS_ok1 WSr_no WSr_some WSr_ok1 WSr_at_bytes WH_some WHA_some chkF_cons chkF_nil chkE_some chkE_ok1 chkE_at evF WO_mv WO_pick WO_bin WO_isNil WO_eqA WO_un WO_convI WO_toStr WO_ofStr WO_build WO_buildF WO_load WO_nilCheck WO_fieldAddr WO_field WO_idxA WO_idxS
  WO_ixA WO_slS WO_slA WO_len WO_lenK WO_appF WO_extract WO_s2a WO_iface WO_min WO_max WO_alloc WO_box WO_buildO WO_store WO_appO WO_copy WO_makeS WO_allocA WO_makeA WO_cvt cvtF_slice WO_look lookF_map alAF mkAF WO_func bind1_v bind2_v bindH_v bindH2_v bindS_v okO_v pickO_t pickO_f
  Env.keep Env.get Env.set Env.del Env.dels Env.setO Env.opd Env.opds Env.opdO Env.parts intF aggF fillA splice cleanL AV.clean bndF fldF_one fldF_many toStrF boxF buildOF
  loadF_rptr loadF_rptrN atF_zero atF_succ blk_cons_zero blk_cons_succ loadF_p loadF_pN atB_some atBN_some retPost resL one
  okc_bool cells_bool notStr_bool okc_int cells_int notStr_int okc_str cells_str notStr_str okc_nil cells_nil notStr_nil okc_ptr cells_ptr notStr_ptr okc_rptr cells_rptr notStr_rptr okc_slice cells_slice notStr_slice 
  okc_list cells_list notStr_list okc_func cells_func notStr_func okc_nilFunc cells_nilFunc notStr_nilFunc okc_iface cells_iface notStr_iface okc_nilIface cells_nilIface notStr_nilIface okc_agg cells_agg notStr_agg 
  okc_tuple cells_tuple notStr_tuple lenF_slice lenF_list lenF_str faF_ptr faF_rptr idxSF_slice idxSF_list idxAF_ptr idxAF_rptr ixAF_many ixAF_one convF_int unF_neg unF_xor unF_not nilF_0nil nilF_0ptr nilF_0rptr nilF_1 
  nilF_2nil nilF_2f nilF_3nil nilF_3f binF_int binF_beq binF_bne binF_sadd binF_seq binF_sne sliceCells_list sliceCells_str sliceCells_slice cutC_some szAV_list szAV_str szAV_slice oneSl_list oneSl_slice slSF_sliceS 
  slSF_sliceN slSF_list slAF_rptr slAF_ptr appFF_list appOF_list appOF_sliceN appOF_sliceS storeF_ptr copyF_slice extF_tuple s2aF_slice s2aF_list nchkF_ptr nchkF_rptr nchkF_f mmF_int ofStrF_str mkSF_int eqAF_agg
attribute [local irreducible] W WX WR WO WS WSr WH WHA WG WC FSpec
attribute [local simp] lendAll
attribute [local congr] W_cg WR_cg WO_cg WS_cg WSr_cg WH_cg WHA_cg WG_cg WC_cg WX_cg
attribute [local simp] Env.has AV.wkr wkrL AV.wkr_refl wkrL_refl AV.ltI ltL leHW hasW Env.lt AV.ids idsL AV.sub subL AV.ren AV.frz frzS frzP frzE frzL Heap.frz Blk.frz Blk.ren renL rnS rnP hasR leR idsL_bv subL_bv
attribute [local simp] cleanL_take cleanL_drop ltL_take ltL_drop idsL_take idsL_drop subL_take subL_drop cleanL_append ltL_append idsL_append subL_append
attribute [local simp] renE mvN mvH
attribute [local simp] fwd backH putL bwd
attribute [local simp] u8i u8e List.idxOf_cons
attribute [local simp] hasRW leRW
attribute [local simp] WS_at_map WSr_at_map loadWP splice_full Int.natCast_inj
def rec7 : Rec := { rec0 with floor := 7 }
def recM : Rec := { rec0 with seq := 4294967295 }
theorem rec7_ok : rec7.Ok := ⟨by decide, by decide, by decide, by decide, by decide, by decide⟩
theorem recM_ok : recM.Ok := ⟨by decide, by decide, by decide, by decide, by decide, by decide⟩
theorem lives14 : (saveS (newF 2) rec7).2.1 = 0 ∧ (saveS (newF 2) rec7).1.seq = 1 ∧ (loadS (saveS (newF 2) rec7).2.2).2.2 = 0 ∧ (loadS (saveS (newF 2) rec7).2.2).2.1 = 0 ∧ (loadS (saveS (newF 2) rec7).2.2).1.seq = 1 ∧ (loadS (saveS (newF 2) rec7).2.2).1.floor = 7 := by decide +kernel
theorem args14 : ∀ k, k < 4 → (loadS (newF (2 + k))).2.2 = 15 ∧ (encF recM).1.length = 160 ∧ (saveS (progF (newF (2 + k)) 256 (encF recM).1).2 rec0).2.1 = 16 ∧
  (loadS (eraseF (failF (saveS (progF (newF (2 + k)) 256 (encF recM).1).2 rec0).2.2 0 0).2 0).2).2.2 = 5 ∧
  (saveS (eraseF (failF (saveS (progF (newF (2 + k)) 256 (encF recM).1).2 rec0).2.2 0 0).2 0).2 rec0).2.1 = 5 := by decide +kernel
theorem one14 : (loadS (newF 1)).2.2 = 1 ∧ (saveS (newF 1) rec0).2.1 = 1 := by decide +kernel
theorem fSetLives_spec : FSpec Try.prog 24 [] [] (.bool true) [] := by
  have f0 := newF_ok (n := 2) (by decide)
  have hN := fFlNew_spec 2 (by decide) (by decide)
  have hS := fSetSave_spec (newF 2) f0 rec7 rec7_ok ⟨true, true, false⟩ rfl
  have hL := fSetLoad_spec _ (saveS_ok f0 rec7).1
  obtain ⟨a1, a2, a3, a4, a5, a6⟩ := lives14
  generalize saveS (newF 2) rec7 = s at *
  generalize loadS s.2.2 = l at *
  generalize newF 2 = g at *
  obtain ⟨r1, e1, g1⟩ := s
  obtain ⟨r2, p2, e2⟩ := l
  obtain ⟨b1, b2, b3, b4, b5, b6, b7⟩ := r1
  obtain ⟨c1, c2, c3, c4, c5, c6, c7⟩ := r2
  simp only at a1 a2 a3 a4 a5 a6
  subst a1 a2 a3 a4 a5 a6
  simp only [recP, rec7, rec0, svP, ldP, List.map_nil] at hS hL
  refine FSpec.of_W fSetLives_low (by simp) ?_
  simp only [initEnv]
  simp
  refine WO_call rfl hN (by simp) ?_
  simp
  refine WO_call rfl hS (by simp) ?_
  simp [flP]
  refine WO_callF [0, 1, 2] rfl rfl hL (by simp [flP]) (by simp [flP]) (by simp) ?_
  simp [flP]
  exact fin_W (by simp)
set_option maxRecDepth 100000 in
theorem fSetArgs_spec (n : Int) : FSpec Try.prog 5 [.int .i64 n] [] (.bool true) [] := by
  obtain ⟨N, hNw⟩ : ∃ N : Nat, IntKind.u64.wrap n = N := ⟨(n % 2 ^ 64).toNat, by unfold IntKind.wrap; simp [IntKind.signed, IntKind.bits]; omega⟩
  obtain ⟨k, hkN⟩ : ∃ k : Nat, k = N % 4 := ⟨_, rfl⟩
  have hk4 : k < 4 := by omega
  have e1 : ((N : Int)).tmod 4 = (k : Nat) := by rw [hkN]; rfl
  have e2 : IntKind.i64.wrap (k : Nat) = (k : Int) := wrap64 (by omega) (by omega)
  have e3 : IntKind.i64.wrap (2 + (k : Int)) = ((2 + k : Nat) : Int) := by rw [wrap64 (by omega) (by omega)]; omega
  obtain ⟨o1, o2⟩ := one14
  obtain ⟨a1, a2, a3, a4, a5⟩ := args14 k hk4
  have hN1 := fFlNew_spec 1 (by decide) (by decide)
  have k1 := newF_ok (n := 1) (by decide)
  have hL1 := fSetLoad_spec _ k1
  have hS1 := fSetSave_spec _ k1 rec0 rec0_ok ⟨true, true, false⟩ rfl
  have hL0 := fSetLoad_nil
  have hS0 := fSetSave_nil rec0 ⟨true, true, false⟩ rfl
  have hN := fFlNew_spec (2 + k) (by omega) (by omega)
  have k2 := newF_ok (n := 2 + k) (by omega)
  have hL2 := fSetLoad_spec _ k2
  have hE := fRecEncode_spec recM recM_ok ⟨true, true, false⟩ rfl
  have hP := fFlProg_spec _ k2 256 (by decide) (encF recM).1 ⟨false, false, false⟩ (by omega)
  have k3 := (progF_ok k2 256 (encF recM).1).1
  have hS3 := fSetSave_spec _ k3 rec0 rec0_ok ⟨true, true, false⟩ rfl
  have k4 := (saveS_ok k3 rec0).1
  have hF := fFlFail_spec (saveS (progF (newF (2 + k)) 256 (encF recM).1).2 rec0).2.2 0 0
  have k5 := failF_ok k4 (n := 0) (t := 0) (by decide) (by decide)
  have hX := fFlErase_spec _ k5 0 (by omega)
  have k6 := (eraseF_ok k5 0).1
  have hL4 := fSetLoad_spec _ k6
  have hS4 := fSetSave_spec _ k6 rec0 rec0_ok ⟨true, true, false⟩ rfl
  have hK := fSetLives_spec
  clear k6 k5 k4 k3 k2 k1
  generalize saveS (eraseF (failF (saveS (progF (newF (2 + k)) 256 (encF recM).1).2 rec0).2.2 0 0).2 0).2 rec0 = s4 at *
  generalize loadS (eraseF (failF (saveS (progF (newF (2 + k)) 256 (encF recM).1).2 rec0).2.2 0 0).2 0).2 = l4 at *
  generalize eraseF (failF (saveS (progF (newF (2 + k)) 256 (encF recM).1).2 rec0).2.2 0 0).2 0 = x4 at *
  generalize failF (saveS (progF (newF (2 + k)) 256 (encF recM).1).2 rec0).2.2 0 0 = f4 at *
  generalize saveS (progF (newF (2 + k)) 256 (encF recM).1).2 rec0 = s3 at *
  generalize progF (newF (2 + k)) 256 (encF recM).1 = p3 at *
  generalize loadS (newF (2 + k)) = l2 at *
  generalize encF recM = c3 at *
  generalize newF (2 + k) = g2 at *
  generalize saveS (newF 1) rec0 = s1 at *
  generalize loadS (newF 1) = l1 at *
  generalize newF 1 = g1 at *
  obtain ⟨r1, p1, i1⟩ := l1
  obtain ⟨r2, i2, g2'⟩ := s1
  obtain ⟨r3, p3', i3⟩ := l2
  obtain ⟨c, ec⟩ := c3
  obtain ⟨ep, gp⟩ := p3
  obtain ⟨r4, i4, g4⟩ := s3
  obtain ⟨ef, gf⟩ := f4
  obtain ⟨ex, gx⟩ := x4
  obtain ⟨r5, p5, i5⟩ := l4
  obtain ⟨r6, i6, g6⟩ := s4
  simp only at o1 o2 a1 a3 a4 a5
  subst o1 o2 a1 a3 a4 a5
  simp only [recP, recM, rec0, svP, ldP, List.map_nil] at *
  refine FSpec.of_W fSetArgs_low (by simp) ?_
  simp only [initEnv]
  simp
  refine WO_call rfl hK (by simp) ?_
  simp
  refine WO_call rfl hN1 (by simp) ?_
  simp
  refine WO_call rfl hL1 (by simp) ?_
  simp [flP]
  refine WO_callF [0, 1, 2] rfl rfl hS1 (by simp [flP]) (by simp [flP]) (by simp) ?_
  simp [flP]
  refine WO_callP [] rfl rfl hL0 (by simp) (by simp) ?_
  simp
  refine WO_callP [] rfl rfl hS0 (by simp) (by simp) ?_
  simp [hNw, e1, e2, e3]
  refine WO_callF [] rfl rfl hN (by simp [flP]) (by simp [flP]) (by simp) ?_
  simp [flP]
  refine WO_callF [7, 8, 9] rfl rfl hL2 (by simp [flP]) (by simp [flP]) (by simp) ?_
  simp [flP]
  refine WO_callP [] rfl rfl hE (by simp) (by simp) ?_
  simp
  refine WO_callF [7, 8, 9] (as' := [.ptr 0 0, .int .i64 256, .list 1 ⟨false, false, false⟩ (c.map bv)]) rfl (by simp) hP (by simp [flP]) (by simp [flP]) (by simp) ?_
  simp [flP]
  refine WO_callF [7, 8, 9] rfl rfl hS3 (by simp [flP]) (by simp [flP]) (by simp) ?_
  simp [flP]
  refine WO_callF [7, 8, 9] rfl rfl hF (by simp [flP]) (by simp [flP]) (by simp) ?_
  simp [flP]
  refine WO_callF [7, 8, 9] rfl rfl hX (by simp [flP]) (by simp [flP]) (by simp) ?_
  simp [flP]
  refine WO_callF [7, 8, 9] rfl rfl hL4 (by simp [flP]) (by simp [flP]) (by simp) ?_
  simp [flP]
  refine WO_callF [7, 8, 9] rfl rfl hS4 (by simp [flP]) (by simp [flP]) (by simp) ?_
  simp [flP]
  exact fin_W (by simp)
set_option maxRecDepth 100000 in
theorem fSettingsArgs_law : ∀ args, AllFit Try.prog 8 Try.f5.params.toList args → FSpec Try.prog 5 args [] (.bool true) [] := by
  intro args has
  rw [show Try.f5.params.toList = [3] from by rw [Try.params5]] at has
  obtain ⟨a, as1, rfl, h1, has⟩ := all_cons has
  cases all_nil has
  obtain ⟨x, h2, h3, rfl⟩ := arg_int Try.underlying3 h1
  exact fSetArgs_spec x
end Go.Proofs.Ytjehncilahjmdaa
