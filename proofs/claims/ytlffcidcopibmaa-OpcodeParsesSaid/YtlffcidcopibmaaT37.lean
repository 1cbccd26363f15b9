/-
  chapter 16: the law of Parse
-/
import Derived.Test.YtlffcidcopibmaaT36
set_option linter.unusedSimpArgs false
set_option linter.unusedVariables false
set_option linter.unusedSectionVars false
namespace Go.Proofs.Ytlffcidcopibmaa
open Go Go.Fw
attribute [local simp] bv cleanL_bv toBytes_bv ltL_bv atF_drop WS_at_bytes W_nil W_skip W_seq W_reg W_draw W_drawP W_kill W_keep W_block W_blk W_exit W_ret WX_blk WX_c WX_lp WX_li W_li W_condT W_condF W_cond WC_true WC_false
  WR_nil WR_cons WR_o1 WR_o2 o1_chk o2_chk WR_grd WG_tt WG_ff WG_tf WG_ft WG_none WS_some WS_ok1 WSr_no WSr_some WSr_ok1 WSr_at_bytes WH_some WHA_some chkF_cons chkF_nil chkE_some chkE_ok1 chkE_at evF WO_mv WO_pick WO_bin WO_isNil WO_eqA WO_un WO_convI WO_toStr WO_ofStr WO_build WO_buildF WO_load WO_nilCheck WO_fieldAddr WO_field WO_idxA WO_idxS
  WO_ixA WO_slS WO_slA WO_len WO_lenK WO_appF WO_extract WO_s2a WO_iface WO_min WO_max WO_alloc WO_box WO_buildO WO_store WO_appO WO_copy WO_makeS WO_allocA WO_makeA WO_cvt cvtF_slice WO_look lookF_map alAF mkAF WO_func bind1_v bind2_v bindH_v bindH2_v bindS_v okO_v pickO_t pickO_f
  Env.keep Env.get Env.set Env.del Env.dels Env.setO Env.opd Env.opds Env.opdO Env.parts intF aggF fillA splice cleanL AV.clean bndF fldF_one fldF_many toStrF boxF buildOF
  loadF_rptr loadF_rptrN atF_zero atF_succ blk_cons_zero blk_cons_succ loadF_p loadF_pN atB_some atBN_some retPost resL one
  okc_bool cells_bool notStr_bool okc_int cells_int notStr_int okc_str cells_str notStr_str okc_nil cells_nil notStr_nil okc_ptr cells_ptr notStr_ptr okc_rptr cells_rptr notStr_rptr okc_slice cells_slice notStr_slice 
  okc_list cells_list notStr_list okc_func cells_func notStr_func okc_nilFunc cells_nilFunc notStr_nilFunc okc_iface cells_iface notStr_iface okc_nilIface cells_nilIface notStr_nilIface okc_agg cells_agg notStr_agg 
  okc_tuple cells_tuple notStr_tuple lenF_slice lenF_list lenF_str faF_ptr faF_rptr idxSF_slice idxSF_list idxAF_ptr idxAF_rptr ixAF_many ixAF_one convF_int unF_neg unF_xor unF_not nilF_0nil nilF_0ptr nilF_0rptr nilF_1 
  nilF_2nil nilF_2f nilF_3nil nilF_3f binF_int binF_beq binF_bne binF_sadd binF_seq binF_sne sliceCells_list sliceCells_str sliceCells_slice cutC_some szAV_list szAV_str szAV_slice oneSl_list oneSl_slice slSF_sliceS 
  slSF_sliceN slSF_list slAF_rptr slAF_ptr appFF_list appOF_list appOF_sliceN appOF_sliceS storeF_ptr copyF_slice extF_tuple s2aF_slice s2aF_list nchkF_ptr nchkF_rptr nchkF_f mmF_int ofStrF_str mkSF_int eqAF_agg
attribute [local irreducible] W WX WR WO WS WSr WH WHA WG WC FSpec
attribute [local simp] lendAll
attribute [local congr] W_cg WR_cg WO_cg WS_cg WSr_cg WH_cg WHA_cg WG_cg WC_cg WX_cg
attribute [local simp] Env.has AV.wkr wkrL AV.wkr_refl wkrL_refl AV.ltI ltL leHW hasW Env.lt AV.ids idsL AV.sub subL AV.ren AV.frz frzS frzP frzE frzL Heap.frz Blk.frz Blk.ren renL rnS rnP hasR leR idsL_bv subL_bv
attribute [local simp] cleanL_take cleanL_drop ltL_take ltL_drop idsL_take idsL_drop subL_take subL_drop cleanL_append ltL_append idsL_append subL_append
attribute [local simp] renE mvN mvH
attribute [local simp] fwd backH putL bwd
attribute [local simp] u8i u8e List.idxOf_cons
attribute [local simp] hasRW leRW
theorem wrap8n {n : Nat} (h : n < 2 ^ 8) : IntKind.u8.wrap (n : Int) = n := by
  unfold IntKind.wrap
  simp [IntKind.signed, IntKind.bits]
  omega
theorem bitI_xor8 (a b : UInt8) : bitI .xor .u8 a.toNat b.toNat = ((a ^^^ b).toNat : Int) := by
  have h1 : BitVec.ofInt 8 (a.toNat : Int) = BitVec.ofNat 8 a.toNat := by simp
  have h2 : BitVec.ofInt 8 (b.toNat : Int) = BitVec.ofNat 8 b.toNat := by simp
  have h3 : a.toNat ^^^ b.toNat < 2 ^ 8 := Nat.xor_lt_two_pow a.toNat_lt b.toNat_lt
  show IntKind.u8.wrap (((BitVec.ofInt 8 (a.toNat : Int) ^^^ BitVec.ofInt 8 (b.toNat : Int)).toNat : Nat) : Int) = _
  rw [h1, h2, BitVec.toNat_xor, BitVec.toNat_ofNat, BitVec.toNat_ofNat, Nat.mod_eq_of_lt a.toNat_lt, Nat.mod_eq_of_lt b.toNat_lt, UInt8.toNat_xor]
  exact wrap8n h3
theorem fOpP_spec (b : List UInt8) (md : Md) (hb : b.length < 2 ^ 62) : FSpec Try.prog 9 [.list 1 md (b.map bv)] [] (.bool true) [] := by
  refine FSpec.of_W fOpP_low (by simp) ?_
  simp only [initEnv]
  simp
  refine WO_callP [] rfl rfl fLives16_spec (by simp) (by simp) ?_
  simp
  refine WC_dec (fun h => ?_) (fun h => ?_)
  · simp
    refine WO_callP [] rfl rfl fLives16_spec (by simp) (by simp) ?_
    simp
    exact fin_W (by simp)
  have hl : b.length ≤ 300 := by omega
  simp
  refine ⟨by omega, ?_⟩
  refine WO_callP (as' := [.list 1 ⟨false, false, true⟩ (b.map bv)]) [0] rfl (by simp [List.take_of_length_le]) (fPar_spec b _ (by omega)) (by simp [parR, reqV]) (by simp) ?_
  simp [parR, reqV]
  refine WO_callP [] rfl rfl (fRPar_spec b _ (by omega)) (by simp [parR, reqV]) (by simp) ?_
  simp [parR, reqV]
  refine W_loop (X := { s : Nat × List UInt8 // s.1 ≤ b.length ∧ s.2.length = b.length })
    (fun s => [(0, .list 1 md (b.map bv)), (3, .slice 1 0 0 b.length none), (4, .ptr 1 0), (5, .int .i64 (parQ b).2), (6, .ptr 2 0), (7, .int .i64 (parQ b).2), (33, .int .i64 b.length), (34, .int .i64 s.1.1)])
    (fun s => [some ⟨s.1.2.map bv, 5, false⟩, some ⟨reqV (parQ b).1, 69, true⟩, some ⟨reqV (parQ b).1, 72, true⟩]) (fun s => b.length - s.1.1) ⟨(0, b), by simp, rfl⟩ retPost_le ?_ ?_
  · refine cut_w ?_
    simp [reqV]
  · rintro ⟨⟨i, l⟩, hi, hll⟩
    simp only at hi hll ⊢
    simp
    refine WC_dec (fun h => ?_) (fun h => ?_)
    · have h1 : i < b.length := by omega
      have h2 : i < l.length := by omega
      have hc : l[i]? = some l[i] := by simp
      have hx := bitI_xor8 l[i] 255
      simp at hx
      simp [hc, hx, h1, h2, reqV]
      refine ⟨h2, ⟨(i + 1, l.set i (l[i] ^^^ 255)), h1, by simp [hll]⟩, ?_, ?_⟩
      · simp; omega
      · have hset : (List.map bv l).set i (AV.int IntKind.u8 ↑(l[i].toNat ^^^ 255)) = (l.set i (l[i] ^^^ 255)).map bv := by simp [List.map_set]
        have hlt : ltL 3 ((List.map bv l).set i (AV.int IntKind.u8 ↑(l[i].toNat ^^^ 255))) = true := by rw [hset]; exact ltL_bv 3 _
        refine cut_w ?_
        simp [hlt]
        rw [wrap64 (by omega) (by omega)]
    · simp [reqV]
      refine WO_callP (as' := [.agg (reqV (parQ b).1), .agg (reqV (parQ b).1)]) [] rfl rfl (fSame16_spec _ _ _ _ _ _ _ _ _ _ rfl rfl) (by simp [reqV]) (by simp) ?_
      simp
      by_cases h0 : (parQ b).2 = 0
      · obtain ⟨e1, e2⟩ := encB_parQ b h0
        have e3 : encQ (parQ b).1 = (b, 0) := by
          have := encQ_yes (r := (parQ b).1) (by rw [e1]; exact ⟨h0, rfl⟩)
          rw [this, e1]
        simp [h0]
        refine WO_callP (as' := [.agg (reqV (parQ b).1)]) [] rfl rfl (fREnc_spec (parQ b).1 _ rfl (parQ_size b) (by have := parQ_data b; omega)) (by simp [reqV]) (by simp) ?_
        simp [e3]
        exact fin_W (by simp)
      · simp [h0]
        exact fin_W (by simp)
theorem fOpcodeParses_law : ∀ args, AllFit Try.prog 8 Try.f9.params.toList args → FSpec Try.prog 9 args [] (.bool true) [] := by
  intro args has
  rw [show Try.f9.params.toList = [22] from by rw [Try.params9]] at has
  obtain ⟨a, as1, rfl, h1, has⟩ := all_cons has
  cases all_nil has
  obtain ⟨nl, full, l, rfl, hl⟩ := arg_bytes Try.underlying22 Try.underlying5 (by kernel_rfl) (by kernel_rfl) h1
  exact fOpP_spec l _ (by omega)
end Go.Proofs.Ytlffcidcopibmaa
