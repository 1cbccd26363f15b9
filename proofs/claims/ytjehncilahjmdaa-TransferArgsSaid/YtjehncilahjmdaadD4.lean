/-
  No flash, and too little; without power.
-/
import Derived.Test.YtjehncilahjmdaadD3
import Derived.Test.YtjehncilahjmdaadC7
set_option linter.unusedSimpArgs false
set_option linter.unnecessarySimpa false
set_option linter.unusedVariables false
set_option linter.unusedSectionVars false
namespace Go.Proofs.Ytjehncilahjmdaa
open Go Go.Fw
attribute [local simp] bv cleanL_bv toBytes_bv ltL_bv atF_drop WS_at_bytes W_nil W_skip W_seq W_reg W_draw W_drawP W_kill W_keep W_block W_blk W_exit W_ret WX_blk WX_c WX_lp WX_li W_li W_condT W_condF W_cond WC_true WC_false
  WR_nil WR_cons WR_o1 WR_o2 o1_chk o2_chk WR_grd WG_tt WG_ff WG_tf WG_ft WG_none WS_some WS_ok1 WSr_no WSr_some WSr_ok1 WSr_at_bytes WH_some WHA_some chkF_cons chkF_nil chkE_some chkE_ok1 chkE_at evF WO_mv WO_pick WO_bin WO_isNil WO_eqA WO_un WO_convI WO_toStr WO_ofStr WO_build WO_buildF WO_load WO_nilCheck WO_fieldAddr WO_field WO_idxA WO_idxS
  WO_ixA WO_slS WO_slA WO_len WO_lenK WO_appF WO_extract WO_s2a WO_iface WO_min WO_max WO_alloc WO_box WO_buildO WO_store WO_appO WO_copy WO_makeS WO_allocA WO_makeA WO_cvt cvtF_slice WO_look lookF_map alAF mkAF WO_func bind1_v bind2_v bindH_v bindH2_v bindS_v okO_v pickO_t pickO_f
  Env.keep Env.get Env.set Env.del Env.dels Env.setO Env.opd Env.opds Env.opdO Env.parts intF aggF fillA splice cleanL AV.clean bndF fldF_one fldF_many toStrF boxF buildOF
  loadF_rptr loadF_rptrN atF_zero atF_succ blk_cons_zero blk_cons_succ loadF_p loadF_pN atB_some atBN_some retPost resL one
  okc_bool cells_bool notStr_bool okc_int cells_int notStr_int okc_str cells_str notStr_str okc_nil cells_nil notStr_nil okc_ptr cells_ptr notStr_ptr okc_rptr cells_rptr notStr_rptr okc_slice cells_slice notStr_slice 
  okc_list cells_list notStr_list okc_func cells_func notStr_func okc_nilFunc cells_nilFunc notStr_nilFunc okc_iface cells_iface notStr_iface okc_nilIface cells_nilIface notStr_nilIface okc_agg cells_agg notStr_agg 
  okc_tuple cells_tuple notStr_tuple lenF_slice lenF_list lenF_str faF_ptr faF_rptr idxSF_slice idxSF_list idxAF_ptr idxAF_rptr ixAF_many ixAF_one convF_int unF_neg unF_xor unF_not nilF_0nil nilF_0ptr nilF_0rptr nilF_1 
  nilF_2nil nilF_2f nilF_3nil nilF_3f binF_int binF_beq binF_bne binF_sadd binF_seq binF_sne sliceCells_list sliceCells_str sliceCells_slice cutC_some szAV_list szAV_str szAV_slice oneSl_list oneSl_slice slSF_sliceS 
  slSF_sliceN slSF_list slAF_rptr slAF_ptr appFF_list appOF_list appOF_sliceN appOF_sliceS storeF_ptr copyF_slice extF_tuple s2aF_slice s2aF_list nchkF_ptr nchkF_rptr nchkF_f mmF_int ofStrF_str mkSF_int eqAF_agg
attribute [local irreducible] W WX WR WO WS WSr WH WHA WG WC FSpec
attribute [local simp] lendAll
attribute [local congr] W_cg WR_cg WO_cg WS_cg WSr_cg WH_cg WHA_cg WG_cg WC_cg WX_cg
attribute [local simp] Env.has AV.wkr wkrL AV.wkr_refl wkrL_refl AV.ltI ltL leHW hasW Env.lt AV.ids idsL AV.sub subL AV.ren AV.frz frzS frzP frzE frzL Heap.frz Blk.frz Blk.ren renL rnS rnP hasR leR idsL_bv subL_bv
attribute [local simp] cleanL_take cleanL_drop ltL_take ltL_drop idsL_take idsL_drop subL_take subL_drop cleanL_append ltL_append idsL_append subL_append
attribute [local simp] renE mvN mvH
attribute [local simp] fwd backH putL bwd
attribute [local simp] u8i u8e List.idxOf_cons
attribute [local simp] hasRW leRW
attribute [local simp] WS_at_map WSr_at_map loadWP splice_full Int.natCast_inj
theorem off_start {f : Fl} (hl : 8704 ≤ f.b.length) (ho : f.off = true) (init : List UInt8) : trNew f = (none, 5) ∧ trStart (f, rec0) init = (5, f, rec0) := by
  have hld : loadS f = (rec0, 0, 5) := by
    unfold loadS
    rw [if_neg (by omega), if_pos ho]
  constructor
  · unfold trNew
    rw [if_neg (by omega), hld]
    rfl
  · have hs : ∀ r, saveS f r = (rec0, 5, f) := by
      intro r
      unfold saveS
      rw [hld]
      rfl
    unfold trStart trSave
    simp only [hs]
    rfl
theorem put_idle (f : Fl) (b : List UInt8) : trPut (f, rec0) b = (16, f, rec0) := rfl
set_option maxRecDepth 100000 in
theorem fTrArgs_spec (p : Int) : FSpec Try.prog 9 [.int .i64 p] [] (.bool true) [] := by
  obtain ⟨N, hNw⟩ : ∃ N : Nat, IntKind.u64.wrap p = N := ⟨(p % 2 ^ 64).toNat, by unfold IntKind.wrap; simp [IntKind.signed, IntKind.bits]; omega⟩
  obtain ⟨k, hkN⟩ : ∃ k : Nat, k = N % 60 := ⟨_, rfl⟩
  have hk4 : k < 60 := by omega
  have e1 : ((N : Int)).tmod 60 = (k : Nat) := by rw [hkN]; rfl
  have e2 : IntKind.i64.wrap (k : Nat) = (k : Int) := wrap64 (by omega) (by omega)
  have e3 : IntKind.i64.wrap (1 + (k : Int)) = 1 + (k : Int) := wrap64s (by omega) (by omega)
  have hN := fFlNew_spec (1 + k) (by omega) (by omega)
  have k0 := newF_ok (n := 1 + k) (by omega)
  have hNew := fTrNew_spec (newF (1 + k)) k0
  have hl0 : (newF (1 + k)).b.length = 256 * (1 + k) := List.length_replicate
  push_cast at hN
  by_cases hk : 1 + k < 34
  · have hn : trNew (newF (1 + k)) = (none, 1) := by
      unfold trNew
      rw [if_pos (by rw [hl0]; omega)]
    rw [hn] at hNew
    simp only at hNew
    generalize newF (1 + k) = f0 at *
    simp only [flP] at hNew
    have hk' : 1 + (k : Int) < 34 := by omega
    refine FSpec.of_W fTrArgs_low (by simp) ?_
    simp only [initEnv]
    simp
    refine WO_call rfl fTrLives_spec (by simp) ?_
    simp [hNw, e1, e2, e3]
    refine WO_call rfl hN (by simp) ?_
    simp [flP]
    refine WO_callP [] rfl rfl fTrNew_nil (by simp) (by simp) ?_
    simp
    refine WO_callF [0, 1, 2] rfl rfl hNew (by simp) (by simp) (by simp) ?_
    simp [hk']
    exact fin_W (by simp)
  · rw [trNew_none (by rw [hl0]; omega) (load_new (by omega) (by omega))] at hNew
    simp only at hNew
    obtain ⟨f0, hf0⟩ : ∃ f0, f0 = newF (1 + k) := ⟨_, rfl⟩
    have ho0 : f0.off = false ∧ f0.lo = 0 ∧ f0.hi = 0 ∧ f0.worn.length = 1 + k := by rw [hf0]; exact ⟨rfl, rfl, rfl, List.length_replicate⟩
    rw [← hf0] at hN hNew k0 hl0
    have tk : TOk (f0, rec0) := ⟨k0, rec0_ok⟩
    have hLd := fTrLoad_spec (f0, rec0) tk
    have hRc := fTrRecord_spec (f0, rec0) tk
    have hSm := fRecSame_spec rec0 rec0 ⟨false, false, false⟩ ⟨true, true, false⟩ rfl rfl
    have hPt := fTrPut_spec (f0, rec0) tk [] ⟨true, true, false⟩ (by decide)
    rw [put_idle] at hPt
    have hF := fFlFail_spec f0 0 0
    have k1 := failF_ok k0 (n := 0) (t := 0) (by decide) (by decide)
    obtain ⟨f1, hf1⟩ : ∃ f1, f1 = (failF f0 0 0).2 := ⟨_, rfl⟩
    have hf1' : f1 = { f0 with armed := true, left := 0, tear := 0 } := by rw [hf1]; rfl
    rw [← hf1] at hF k1
    have hX := fFlErase_spec f1 k1 0 (by omega)
    have k2 := eraseF_ok k1 0
    obtain ⟨f2, hf2⟩ : ∃ f2, f2 = (eraseF f1 0).2 := ⟨_, rfl⟩
    have ho2 : f2.off = true := by
      have : (stepF f1).1 = false ∧ (stepF f1).2.off = true := by
        unfold stepF
        rw [if_pos (by rw [hf1']; exact ⟨rfl, rfl⟩)]
        exact ⟨rfl, rfl⟩
      rw [hf2]
      unfold eraseF
      rw [if_neg (by rw [hf1']; show ¬ f0.off = true; rw [ho0.1]; decide), if_neg (by rw [hf1']; show ¬ ((0 : Int) < 0 ∨ ((f0.worn.length : Nat) : Int) ≤ 0); omega), if_neg (by rw [hf1']; show ¬ (f0.lo ≤ 0 ∧ 0 < f0.hi); rw [ho0.2.2.1]; omega)]
      simp only
      rw [if_pos this.1]
      exact this.2
    rw [← hf2] at hX k2
    have hl2 : 8704 ≤ f2.b.length := by
      have : f1.b = f0.b := by rw [hf1']
      rw [k2.2, this, hl0]; omega
    obtain ⟨q1, q2⟩ := off_start hl2 ho2 []
    have hNw2 := fTrNew_spec f2 k2.1
    have hSt := fTrStart_spec (f2, rec0) ⟨k2.1, rec0_ok⟩ [] ⟨true, true, false⟩ (by decide)
    rw [q1] at hNw2
    rw [q2] at hSt
    clear hf0 hf1 hf1' hf2
    simp [kpP, flP, recP, rec0] at hNew hLd hRc hPt hNw2 hSt hSm
    simp only [flP] at hF hX
    have hk' : ¬ 1 + (k : Int) < 34 := by omega
    refine FSpec.of_W fTrArgs_low (by simp) ?_
    simp only [initEnv]
    simp
    refine WO_call rfl fTrLives_spec (by simp) ?_
    simp [hNw, e1, e2, e3]
    refine WO_call rfl hN (by simp) ?_
    simp [flP]
    refine WO_callP [] rfl rfl fTrNew_nil (by simp) (by simp) ?_
    simp
    refine WO_callF [0, 1, 2] rfl rfl hNew (by simp) (by simp) (by simp) ?_
    simp [hk']
    refine WO_callF [0, 1, 2, 3] rfl rfl hLd (by simp) (by simp) (by simp) ?_
    simp
    refine WO_callF [0, 1, 2, 3] rfl rfl hRc (by simp) (by simp) (by simp) ?_
    simp [show IntKind.i64.wrap 0 = 0 from rfl]
    refine WO_callP [] rfl rfl hSm (by simp) (by simp) ?_
    simp
    refine WO_callF [0, 1, 2, 3] rfl rfl hPt (by simp) (by simp) (by simp) ?_
    simp
    refine WO_callF [0, 1, 2] rfl rfl hF (by simp) (by simp) (by simp) ?_
    simp
    refine WO_callF [0, 1, 2] rfl rfl hX (by simp) (by simp) (by simp) ?_
    simp
    refine WO_callF [0, 1, 2] rfl rfl hNw2 (by simp) (by simp) (by simp) ?_
    simp
    refine WO_callF [0, 1, 2, 3] rfl rfl hSt (by simp) (by simp) (by simp) ?_
    simp
    exact fin_W (by simp)
set_option maxRecDepth 100000 in
theorem fTransferArgs_law : ∀ args, AllFit Try.prog 8 Try.f9.params.toList args → FSpec Try.prog 9 args [] (.bool true) [] := by
  intro args has
  rw [show Try.f9.params.toList = [3] from by rw [Try.params9]] at has
  obtain ⟨a, as1, rfl, h1, has⟩ := all_cons has
  cases all_nil has
  obtain ⟨x, _, _, rfl⟩ := arg_int Try.underlying3 h1
  exact fTrArgs_spec x
end Go.Proofs.Ytjehncilahjmdaa
