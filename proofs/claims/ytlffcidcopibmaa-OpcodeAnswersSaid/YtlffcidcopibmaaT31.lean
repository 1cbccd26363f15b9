/-
  chapter 16
-/
import Derived.Test.YtlffcidcopibmaaT30
set_option linter.unusedSimpArgs false
set_option linter.unusedVariables false
set_option linter.unusedSectionVars false
namespace Go.Proofs.Ytlffcidcopibmaa
open Go Go.Fw
attribute [local simp] bv cleanL_bv toBytes_bv ltL_bv atF_drop WS_at_bytes W_nil W_skip W_seq W_reg W_draw W_drawP W_kill W_keep W_block W_blk W_exit W_ret WX_blk WX_c WX_lp WX_li W_li W_condT W_condF W_cond WC_true WC_false
  WR_nil WR_cons WR_o1 WR_o2 o1_chk o2_chk WR_grd WG_tt WG_ff WG_tf WG_ft WG_none WS_some WS_ok1 WSr_no WSr_some WSr_ok1 WSr_at_bytes WH_some WHA_some chkF_cons chkF_nil chkE_some chkE_ok1 chkE_at evF WO_mv WO_pick WO_bin WO_isNil WO_eqA WO_un WO_convI WO_toStr WO_ofStr WO_build WO_buildF WO_load WO_nilCheck WO_fieldAddr WO_field WO_idxA WO_idxS
  WO_ixA WO_slS WO_slA WO_len WO_lenK WO_appF WO_extract WO_s2a WO_iface WO_min WO_max WO_alloc WO_box WO_buildO WO_store WO_appO WO_copy WO_makeS WO_allocA WO_makeA WO_cvt cvtF_slice WO_look lookF_map alAF mkAF WO_func bind1_v bind2_v bindH_v bindH2_v bindS_v okO_v pickO_t pickO_f
  Env.keep Env.get Env.set Env.del Env.dels Env.setO Env.opd Env.opds Env.opdO Env.parts intF aggF fillA splice cleanL AV.clean bndF fldF_one fldF_many toStrF boxF buildOF
  loadF_rptr loadF_rptrN atF_zero atF_succ blk_cons_zero blk_cons_succ loadF_p loadF_pN atB_some atBN_some retPost resL one
  okc_bool cells_bool notStr_bool okc_int cells_int notStr_int okc_str cells_str notStr_str okc_nil cells_nil notStr_nil okc_ptr cells_ptr notStr_ptr okc_rptr cells_rptr notStr_rptr okc_slice cells_slice notStr_slice 
  okc_list cells_list notStr_list okc_func cells_func notStr_func okc_nilFunc cells_nilFunc notStr_nilFunc okc_iface cells_iface notStr_iface okc_nilIface cells_nilIface notStr_nilIface okc_agg cells_agg notStr_agg 
  okc_tuple cells_tuple notStr_tuple lenF_slice lenF_list lenF_str faF_ptr faF_rptr idxSF_slice idxSF_list idxAF_ptr idxAF_rptr ixAF_many ixAF_one convF_int unF_neg unF_xor unF_not nilF_0nil nilF_0ptr nilF_0rptr nilF_1 
  nilF_2nil nilF_2f nilF_3nil nilF_3f binF_int binF_beq binF_bne binF_sadd binF_seq binF_sne sliceCells_list sliceCells_str sliceCells_slice cutC_some szAV_list szAV_str szAV_slice oneSl_list oneSl_slice slSF_sliceS 
  slSF_sliceN slSF_list slAF_rptr slAF_ptr appFF_list appOF_list appOF_sliceN appOF_sliceS storeF_ptr copyF_slice extF_tuple s2aF_slice s2aF_list nchkF_ptr nchkF_rptr nchkF_f mmF_int ofStrF_str mkSF_int eqAF_agg
attribute [local irreducible] W WX WR WO WS WSr WH WHA WG WC FSpec
attribute [local simp] lendAll
attribute [local congr] W_cg WR_cg WO_cg WS_cg WSr_cg WH_cg WHA_cg WG_cg WC_cg WX_cg
attribute [local simp] Env.has AV.wkr wkrL AV.wkr_refl wkrL_refl AV.ltI ltL leHW hasW Env.lt AV.ids idsL AV.sub subL AV.ren AV.frz frzS frzP frzE frzL Heap.frz Blk.frz Blk.ren renL rnS rnP hasR leR idsL_bv subL_bv
attribute [local simp] cleanL_take cleanL_drop ltL_take ltL_drop idsL_take idsL_drop subL_take subL_drop cleanL_append ltL_append idsL_append subL_append
attribute [local simp] renE mvN mvH
attribute [local simp] fwd backH putL bwd
attribute [local simp] u8i u8e List.idxOf_cons
attribute [local simp] hasRW leRW
theorem fSlClone_spec (b : List UInt8) (md : Md) (hb : b.length < 2 ^ 47) : FSpec Try.prog 35 [.list 1 md (b.map bv)] [] (.list 1 ⟨false, false, false⟩ (b.map bv)) [] := by
  by_cases h0 : md.nl = true ∧ b ≠ []
  · exact FSpec.not_nil (i := 0) rfl h0.1 (by simpa using h0.2)
  refine FSpec.of_W fSlClone_low (by simp) ?_
  simp only [initEnv]
  simp
  refine W_regN rfl rfl (fun c hc => ?_)
  simp at hc
  simp
  refine WC_b (fun h => ?_) (fun h => ?_)
  · have : b = [] := by
      rcases b with _ | ⟨x, b⟩
      · rfl
      · subst h; simp at hc h0; exact absurd hc.symm (by simp [h0])
    subst this
    simp
    exact fin_W (by simp)
  · simp
    refine ⟨by omega, ?_⟩
    exact fin_W (by simp)
theorem par_loop (o ty : UInt8) (d : List UInt8) (m : Md) (hd : d.length ≤ 4) (R : AV) (hR : R = parR (⟨o, ty, leN d, []⟩, 0)) (g : Option Blk) :
    W Try.prog 0 [It.c fPar_l12.loop, It.blk 1, It.c (KCode.keep [2, 4] ((KCode.reg fPar_r24).seq KCode.ret))]
      [(2, .ptr 0 0), (4, .ptr 1 0), (92, .list 1 m (d.map bv)), (93, .int .i64 d.length), (94, .int .i64 0)]
      [some ⟨[.int .u8 0, .int .u8 0, .int .u32 0, .list 1 ⟨true, true, false⟩ []], 69, true⟩, some ⟨[bv o, bv ty, .int .u32 0, .list 1 ⟨true, true, false⟩ []], 69, true⟩, g]
      (retPost fPar_rs (fin 0 R [])) := by
  refine W_loop (X := { i : Nat // i ≤ d.length }) (fun i => [(2, .ptr 0 0), (4, .ptr 1 0), (92, .list 1 m (d.map bv)), (93, .int .i64 d.length), (94, .int .i64 i.1)])
    (fun i => [some ⟨[.int .u8 0, .int .u8 0, .int .u32 0, .list 1 ⟨true, true, false⟩ []], 69, true⟩, some ⟨[bv o, bv ty, .int .u32 (leN (d.take i.1)), .list 1 ⟨true, true, false⟩ []], 69, true⟩, none]) (fun i => d.length - i.1) ⟨0, by simp⟩ retPost_le ?_ ?_
  · refine cut_w ?_
    simp [leN]
  · rintro ⟨i, hi⟩
    simp only
    simp
    refine WC_dec (fun h => ?_) (fun h => ?_)
    · have h' : i < d.length := by omega
      have hc : d[i]? = some d[i] := by simp
      have hw : IntKind.u32.wrap (d[i].toNat : Int) = d[i].toNat := wrap32n (by have := d[i].toNat_lt; omega)
      have hw2 : IntKind.i64.wrap (8 * (i : Int)) = ((8 * i : Nat) : Int) := by rw [wrap64 (by omega) (by omega)]; omega
      have hor := or_le i (leN (d.take i)) d[i].toNat (by have := leN_lt (d.take i); rw [List.length_take, Nat.min_eq_left hi] at this; exact this) (by omega) d[i].toNat_lt
      simp [hc, hw, hw2]
      refine ⟨h', by omega, ?_⟩
      have hmin : min (8 * (i : Int)).toNat IntKind.u32.bits = 8 * i := by simp only [IntKind.bits]; omega
      rw [hmin, hor]
      refine ⟨⟨i + 1, h'⟩, ?_, ?_⟩
      · simp; omega
      · refine cut_w ?_
        simp
        rw [wrap64 (by omega) (by omega), leN_take d i h']
        simp
    · have : i = d.length := by omega
      subst this
      simp [loadWP]
      exact fin_W (by simp [hR, parR, reqV])
theorem fPar_spec (b : List UInt8) (md : Md) (hb : b.length < 2 ^ 40) : FSpec Try.prog 30 [.list 1 md (b.map bv)] [] (parR (parQ b)) [] := by
  refine FSpec.of_W fPar_low (by simp) ?_
  simp only [initEnv]
  simp
  rcases b with _ | ⟨o, r⟩
  · simp [loadWP]
    exact fin_W (by simp [parR, reqV, parQ, z16])
  simp at hb
  simp
  refine WO_callQ rfl (fForms_spec []) (by simp) ?_
  simp [look_forms, frmV]
  have hT : fT o ≤ 1 := by unfold fT; split <;> omega
  have hS : fS o ≤ 4 := by unfold fS; split <;> (try split) <;> omega
  have w2 : IntKind.i64.wrap (1 + (fT o : Int)) = ((1 + fT o : Nat) : Int) := by
    rw [wrap64 (by omega) (by omega)]
    omega
  have w1 : IntKind.i64.wrap (IntKind.i64.wrap (1 + (fT o : Int)) + (fS o : Int)) = ((1 + fT o + fS o : Nat) : Int) := by
    rw [w2, wrap64 (by omega) (by omega)]
    omega
  by_cases h8 : o = 8
  · subst h8
    by_cases hl : 64 < r.length
    · have e2 : (65 : Int) < (r.length : Int) + 1 := by omega
      simp [e2, w1, loadWP]
      exact fin_W (by simp [parR, reqV, parQ, z16, hl])
    have e2 : ¬ (65 : Int) < (r.length : Int) + 1 := by omega
    by_cases h0 : r = []
    · subst h0
      simp [loadWP, w1]
      exact fin_W (by simp [parR, reqV, parQ, z16])
    have h1 : 0 < r.length := List.length_pos_iff.2 h0
    have e3 : (1 : Int) < (r.length : Int) + 1 := by omega
    simp [e2, e3, w1]
    refine ⟨by omega, ?_⟩
    refine WO_callP (as' := [.list 1 ⟨md.nl, md.full, md.bw⟩ (r.map bv)]) [] rfl (by simp [List.take_of_length_le]) (fSlClone_spec r _ (by omega)) (by simp) (by simp) ?_
    simp [loadWP]
    exact fin_W (by simp [parR, reqV, parQ, z16, hl, h0])
  · by_cases hk : fOk o = true
    · by_cases hl1 : r.length < fT o + fS o
      · have e2 : (r.length : Int) + 1 < 1 + (fT o : Int) + (fS o : Int) := by omega
        simp [h8, hk, w1, e2, loadWP]
        exact fin_W (by simp [parR, reqV, parQ, z16, h8, hk, hl1])
      have e2 : ¬ (r.length : Int) + 1 < 1 + (fT o : Int) + (fS o : Int) := by omega
      by_cases hl2 : fT o + fS o < r.length
      · have e3 : 1 + (fT o : Int) + (fS o : Int) < (r.length : Int) + 1 := by omega
        simp [h8, hk, w1, e2, e3, loadWP]
        exact fin_W (by simp [parR, reqV, parQ, z16, h8, hk, hl1, hl2])
      have e3 : ¬ 1 + (fT o : Int) + (fS o : Int) < (r.length : Int) + 1 := by omega
      simp [h8, hk, w1, e2, e3]
      have hr : r.length = fT o + fS o := by omega
      rcases Nat.eq_zero_or_pos (fT o) with h0 | h0
      · simp only [h0] at hr hl1 hl2 ⊢
        have wr1 : IntKind.i64.wrap 1 = 1 := rfl
        simp
        simp only [wr1]
        simp
        simp only [Nat.zero_add] at hr hl1 hl2
        refine ⟨by omega, ?_⟩
        have := par_loop o 0 r ⟨md.nl, md.full, md.bw⟩ (by omega) (parR (parQ (o :: r))) (by simp [parR, parQ, h8, hk, h0, hl1, hl2]) (some ⟨[.int .i64 0, .int .i64 (fS o)], 88, true⟩)
        simpa [List.take_of_length_le] using this
      · have h1 : fT o = 1 := by omega
        obtain ⟨x, d, rfl⟩ : ∃ x d, r = x :: d := by
          cases r with
          | nil => simp at hr; omega
          | cons x d => exact ⟨x, d, rfl⟩
        simp only [h1] at hr hl1 hl2 ⊢
        have wr1 : IntKind.i64.wrap 2 = 2 := rfl
        simp
        simp only [wr1]
        simp
        refine ⟨by omega, ?_⟩
        simp only [List.length_cons] at hr hl1 hl2
        have := par_loop o x d ⟨md.nl, md.full, md.bw⟩ (by omega) (parR (parQ (o :: x :: d))) (by simp [parR, parQ, h8, hk, h1, hl1, hl2]) (some ⟨[.int .i64 1, .int .i64 (fS o)], 88, true⟩)
        simpa [List.take_of_length_le] using this
    · simp [h8, hk, w1, loadWP]
      exact fin_W (by simp [parR, reqV, parQ, z16, h8, hk])
end Go.Proofs.Ytlffcidcopibmaa
