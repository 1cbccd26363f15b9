/-
  chapter 16
-/
import Derived.Test.YtlffcidcopibmaaT31
set_option linter.unusedSimpArgs false
set_option linter.unusedVariables false
set_option linter.unusedSectionVars false
namespace Go.Proofs.Ytlffcidcopibmaa
open Go Go.Fw
attribute [local simp] bv cleanL_bv toBytes_bv ltL_bv atF_drop WS_at_bytes W_nil W_skip W_seq W_reg W_draw W_drawP W_kill W_keep W_block W_blk W_exit W_ret WX_blk WX_c WX_lp WX_li W_li W_condT W_condF W_cond WC_true WC_false
  WR_nil WR_cons WR_o1 WR_o2 o1_chk o2_chk WR_grd WG_tt WG_ff WG_tf WG_ft WG_none WS_some WS_ok1 WSr_no WSr_some WSr_ok1 WSr_at_bytes WH_some WHA_some chkF_cons chkF_nil chkE_some chkE_ok1 chkE_at evF WO_mv WO_pick WO_bin WO_isNil WO_eqA WO_un WO_convI WO_toStr WO_ofStr WO_build WO_buildF WO_load WO_nilCheck WO_fieldAddr WO_field WO_idxA WO_idxS
  WO_ixA WO_slS WO_slA WO_len WO_lenK WO_appF WO_extract WO_s2a WO_iface WO_min WO_max WO_alloc WO_box WO_buildO WO_store WO_appO WO_copy WO_makeS WO_allocA WO_makeA WO_cvt cvtF_slice WO_look lookF_map alAF mkAF WO_func bind1_v bind2_v bindH_v bindH2_v bindS_v okO_v pickO_t pickO_f
  Env.keep Env.get Env.set Env.del Env.dels Env.setO Env.opd Env.opds Env.opdO Env.parts intF aggF fillA splice cleanL AV.clean bndF fldF_one fldF_many toStrF boxF buildOF
  loadF_rptr loadF_rptrN atF_zero atF_succ blk_cons_zero blk_cons_succ loadF_p loadF_pN atB_some atBN_some retPost resL one
  okc_bool cells_bool notStr_bool okc_int cells_int notStr_int okc_str cells_str notStr_str okc_nil cells_nil notStr_nil okc_ptr cells_ptr notStr_ptr okc_rptr cells_rptr notStr_rptr okc_slice cells_slice notStr_slice 
  okc_list cells_list notStr_list okc_func cells_func notStr_func okc_nilFunc cells_nilFunc notStr_nilFunc okc_iface cells_iface notStr_iface okc_nilIface cells_nilIface notStr_nilIface okc_agg cells_agg notStr_agg 
  okc_tuple cells_tuple notStr_tuple lenF_slice lenF_list lenF_str faF_ptr faF_rptr idxSF_slice idxSF_list idxAF_ptr idxAF_rptr ixAF_many ixAF_one convF_int unF_neg unF_xor unF_not nilF_0nil nilF_0ptr nilF_0rptr nilF_1 
  nilF_2nil nilF_2f nilF_3nil nilF_3f binF_int binF_beq binF_bne binF_sadd binF_seq binF_sne sliceCells_list sliceCells_str sliceCells_slice cutC_some szAV_list szAV_str szAV_slice oneSl_list oneSl_slice slSF_sliceS 
  slSF_sliceN slSF_list slAF_rptr slAF_ptr appFF_list appOF_list appOF_sliceN appOF_sliceS storeF_ptr copyF_slice extF_tuple s2aF_slice s2aF_list nchkF_ptr nchkF_rptr nchkF_f mmF_int ofStrF_str mkSF_int eqAF_agg
attribute [local irreducible] W WX WR WO WS WSr WH WHA WG WC FSpec
attribute [local simp] lendAll
attribute [local congr] W_cg WR_cg WO_cg WS_cg WSr_cg WH_cg WHA_cg WG_cg WC_cg WX_cg
attribute [local simp] Env.has AV.wkr wkrL AV.wkr_refl wkrL_refl AV.ltI ltL leHW hasW Env.lt AV.ids idsL AV.sub subL AV.ren AV.frz frzS frzP frzE frzL Heap.frz Blk.frz Blk.ren renL rnS rnP hasR leR idsL_bv subL_bv
attribute [local simp] cleanL_take cleanL_drop ltL_take ltL_drop idsL_take idsL_drop subL_take subL_drop cleanL_append ltL_append idsL_append subL_append
attribute [local simp] renE mvN mvH
attribute [local simp] fwd backH putL bwd
attribute [local simp] u8i u8e List.idxOf_cons
attribute [local simp] hasRW leRW
theorem w32i {n : Int} (h1 : 0 ≤ n) (h2 : n < 4294967296) : IntKind.u32.wrap n = n := by
  unfold IntKind.wrap; simp [IntKind.signed, IntKind.bits] at *; omega
theorem u32_2 (a b : UInt8) : IntKind.u32.wrap (IntKind.u32.wrap (a.toNat : Int) + IntKind.u32.wrap (256 * IntKind.u32.wrap (b.toNat : Int))) = (leN [a, b] : Nat) := by
  have := a.toNat_lt; have := b.toNat_lt
  rw [w32i (n := (a.toNat : Int)) (by omega) (by omega), w32i (n := (b.toNat : Int)) (by omega) (by omega), w32i (n := 256 * (b.toNat : Int)) (by omega) (by omega), w32i (by omega) (by omega)]
  simp [leN]
theorem u32_4 (a b c d : UInt8) : IntKind.u32.wrap (IntKind.u32.wrap (IntKind.u32.wrap (IntKind.u32.wrap (a.toNat : Int) + IntKind.u32.wrap (256 * IntKind.u32.wrap (b.toNat : Int))) + IntKind.u32.wrap (65536 * IntKind.u32.wrap (c.toNat : Int))) + IntKind.u32.wrap (16777216 * IntKind.u32.wrap (d.toNat : Int))) = (leN [a, b, c, d] : Nat) := by
  have := a.toNat_lt; have := b.toNat_lt; have := c.toNat_lt; have := d.toNat_lt
  rw [u32_2, w32i (n := (c.toNat : Int)) (by omega) (by omega), w32i (n := (d.toNat : Int)) (by omega) (by omega), w32i (n := 65536 * (c.toNat : Int)) (by omega) (by omega), w32i (n := 16777216 * (d.toNat : Int)) (by omega) (by omega)]
  simp only [leN]
  rw [w32i (n := ((a.toNat + 256 * (b.toNat + 256 * 0) : Nat) : Int) + 65536 * (c.toNat : Int)) (by omega) (by omega), w32i (by omega) (by omega)]
  omega
theorem fRPar_spec (b : List UInt8) (md : Md) (hb : b.length < 2 ^ 40) : FSpec Try.prog 31 [.list 1 md (b.map bv)] [] (parR (parQ b)) [] := by
  refine FSpec.of_W fRPar_low (by simp) ?_
  simp only [initEnv]
  simp
  rcases b with _ | ⟨o, r⟩
  · simp [loadWP]
    exact fin_W (by simp [parR, reqV, parQ, z16])
  simp at hb
  simp
  by_cases hz : o = 0 ∨ o = 3 ∨ o = 4 ∨ o = 7 ∨ o = 12
  · rcases r with _ | ⟨x, d⟩
    · rcases hz with rfl | rfl | rfl | rfl | rfl <;>
      (simp [loadWP]
       exact fin_W (by simp [parR, reqV, parQ, fOk, fT, fS, leN]))
    · have e : (1 : Int) < (d.length : Int) + 1 + 1 := by omega
      have e0 : ¬ (d.length : Int) + 1 + 1 < 1 := by omega
      rcases hz with rfl | rfl | rfl | rfl | rfl <;>
      (simp [e, e0, loadWP]
       exact fin_W (by simp [parR, reqV, parQ, z16, fOk, fT, fS, leN]))
  have n0 : ¬ o = 0 := fun h => hz (by simp [h])
  have n3 : ¬ o = 3 := fun h => hz (by simp [h])
  have n4 : ¬ o = 4 := fun h => hz (by simp [h])
  have n7 : ¬ o = 7 := fun h => hz (by simp [h])
  have n12 : ¬ o = 12 := fun h => hz (by simp [h])
  by_cases h8 : o = 8
  · subst h8
    by_cases hl : 64 < r.length
    · have e2 : ¬ (r.length : Int) + 1 < 2 := by omega
      have e3 : (65 : Int) < (r.length : Int) + 1 := by omega
      simp [e2, e3, loadWP]
      exact fin_W (by simp [parR, reqV, parQ, z16, hl])
    by_cases h0 : r = []
    · subst h0
      simp [loadWP]
      exact fin_W (by simp [parR, reqV, parQ, z16])
    have h1 : 0 < r.length := List.length_pos_iff.2 h0
    have e2 : ¬ (r.length : Int) + 1 < 2 := by omega
    have e3 : ¬ (65 : Int) < (r.length : Int) + 1 := by omega
    simp [e2, e3, loadWP]
    repeat (refine ⟨by omega, ?_⟩)
    exact fin_W (by simp [parR, reqV, parQ, z16, hl, h0, List.take_of_length_le])
  by_cases h69 : o = 6 ∨ o = 9
  · rcases r with _ | ⟨x, _ | ⟨y, d⟩⟩
    · rcases h69 with rfl | rfl <;>
      (simp [loadWP]
       exact fin_W (by simp [parR, reqV, parQ, z16, fOk, fT, fS, leN]))
    · rcases h69 with rfl | rfl <;>
      (simp [loadWP]
       exact fin_W (by simp [parR, reqV, parQ, z16, fOk, fT, fS, leN]))
    · have e2 : ¬ (d.length : Int) + 1 + 1 + 1 < 2 := by omega
      have e3 : (2 : Int) < (d.length : Int) + 1 + 1 + 1 := by omega
      rcases h69 with rfl | rfl <;>
      (simp [e2, e3, loadWP]
       exact fin_W (by simp [parR, reqV, parQ, z16, fOk, fT, fS, leN]))
  have n6 : ¬ o = 6 := fun h => h69 (by simp [h])
  have n9 : ¬ o = 9 := fun h => h69 (by simp [h])
  by_cases h1 : o = 1
  · subst h1
    by_cases hl1 : r.length < 5
    · have e2 : (r.length : Int) + 1 < 6 := by omega
      simp [e2, loadWP]
      exact fin_W (by simp [parR, reqV, parQ, z16, fOk, fT, fS, hl1])
    by_cases hl2 : 5 < r.length
    · have e2 : ¬ (r.length : Int) + 1 < 6 := by omega
      have e3 : (6 : Int) < (r.length : Int) + 1 := by omega
      simp [e2, e3, loadWP]
      exact fin_W (by simp [parR, reqV, parQ, z16, fOk, fT, fS, hl1, hl2])
    obtain ⟨x1, x2, x3, x4, x5, rfl⟩ : ∃ x1 x2 x3 x4 x5, r = [x1, x2, x3, x4, x5] := by
      match r, hl1, hl2 with
      | [x1, x2, x3, x4, x5], _, _ => exact ⟨x1, x2, x3, x4, x5, rfl⟩
      | [], h, _ => simp at h
      | [_], h, _ => simp at h
      | [_, _], h, _ => simp at h
      | [_, _, _], h, _ => simp at h
      | [_, _, _, _], h, _ => simp at h
      | _ :: _ :: _ :: _ :: _ :: _ :: _, _, h => simp at h
    simp [loadWP]
    rw [u32_4]
    exact fin_W (by simp [parR, reqV, parQ, fOk, fT, fS])
  by_cases h2 : o = 2
  · subst h2
    rcases r with _ | ⟨x, _ | ⟨y, _ | ⟨z, d⟩⟩⟩
    · simp [loadWP]
      exact fin_W (by simp [parR, reqV, parQ, z16, fOk, fT, fS, leN])
    · simp [loadWP]
      exact fin_W (by simp [parR, reqV, parQ, z16, fOk, fT, fS, leN])
    · simp [loadWP]
      rw [u32_2]
      exact fin_W (by simp [parR, reqV, parQ, fOk, fT, fS])
    · have e2 : ¬ (d.length : Int) + 1 + 1 + 1 + 1 < 3 := by omega
      have e3 : (3 : Int) < (d.length : Int) + 1 + 1 + 1 + 1 := by omega
      simp [e2, e3, loadWP]
      have e4 : ¬ d.length + 1 + 1 + 1 < 2 := by omega
      exact fin_W (by simp [parR, reqV, parQ, z16, fOk, fT, fS, leN, e4])
  have hk : fOk o = false := by simp [fOk, n0, h1, h2, n3, n4, n6, n7, n9, n12]
  have n00 : ¬ o.toNat = 0 := fun h => n0 (UInt8.toNat_inj.1 h)
  simp [n00, n0, h1, h2, n3, n4, n6, n7, n9, n12, h8, loadWP]
  exact fin_W (by simp [parR, reqV, parQ, z16, h8, hk])
end Go.Proofs.Ytlffcidcopibmaa
