/-
  chapter 16: the bytes of requests, by the document
-/
import Derived.Test.YtlffcidcopibmaaT34
set_option linter.unusedSimpArgs false
set_option linter.unusedVariables false
set_option linter.unusedSectionVars false
namespace Go.Proofs.Ytlffcidcopibmaa
open Go Go.Fw
attribute [local simp] bv cleanL_bv toBytes_bv ltL_bv atF_drop WS_at_bytes W_nil W_skip W_seq W_reg W_draw W_drawP W_kill W_keep W_block W_blk W_exit W_ret WX_blk WX_c WX_lp WX_li W_li W_condT W_condF W_cond WC_true WC_false
  WR_nil WR_cons WR_o1 WR_o2 o1_chk o2_chk WR_grd WG_tt WG_ff WG_tf WG_ft WG_none WS_some WS_ok1 WSr_no WSr_some WSr_ok1 WSr_at_bytes WH_some WHA_some chkF_cons chkF_nil chkE_some chkE_ok1 chkE_at evF WO_mv WO_pick WO_bin WO_isNil WO_eqA WO_un WO_convI WO_toStr WO_ofStr WO_build WO_buildF WO_load WO_nilCheck WO_fieldAddr WO_field WO_idxA WO_idxS
  WO_ixA WO_slS WO_slA WO_len WO_lenK WO_appF WO_extract WO_s2a WO_iface WO_min WO_max WO_alloc WO_box WO_buildO WO_store WO_appO WO_copy WO_makeS WO_allocA WO_makeA WO_cvt cvtF_slice WO_look lookF_map alAF mkAF WO_func bind1_v bind2_v bindH_v bindH2_v bindS_v okO_v pickO_t pickO_f
  Env.keep Env.get Env.set Env.del Env.dels Env.setO Env.opd Env.opds Env.opdO Env.parts intF aggF fillA splice cleanL AV.clean bndF fldF_one fldF_many toStrF boxF buildOF
  loadF_rptr loadF_rptrN atF_zero atF_succ blk_cons_zero blk_cons_succ loadF_p loadF_pN atB_some atBN_some retPost resL one
  okc_bool cells_bool notStr_bool okc_int cells_int notStr_int okc_str cells_str notStr_str okc_nil cells_nil notStr_nil okc_ptr cells_ptr notStr_ptr okc_rptr cells_rptr notStr_rptr okc_slice cells_slice notStr_slice 
  okc_list cells_list notStr_list okc_func cells_func notStr_func okc_nilFunc cells_nilFunc notStr_nilFunc okc_iface cells_iface notStr_iface okc_nilIface cells_nilIface notStr_nilIface okc_agg cells_agg notStr_agg 
  okc_tuple cells_tuple notStr_tuple lenF_slice lenF_list lenF_str faF_ptr faF_rptr idxSF_slice idxSF_list idxAF_ptr idxAF_rptr ixAF_many ixAF_one convF_int unF_neg unF_xor unF_not nilF_0nil nilF_0ptr nilF_0rptr nilF_1 
  nilF_2nil nilF_2f nilF_3nil nilF_3f binF_int binF_beq binF_bne binF_sadd binF_seq binF_sne sliceCells_list sliceCells_str sliceCells_slice cutC_some szAV_list szAV_str szAV_slice oneSl_list oneSl_slice slSF_sliceS 
  slSF_sliceN slSF_list slAF_rptr slAF_ptr appFF_list appOF_list appOF_sliceN appOF_sliceS storeF_ptr copyF_slice extF_tuple s2aF_slice s2aF_list nchkF_ptr nchkF_rptr nchkF_f mmF_int ofStrF_str mkSF_int eqAF_agg
attribute [local irreducible] W WX WR WO WS WSr WH WHA WG WC FSpec
attribute [local simp] lendAll
attribute [local congr] W_cg WR_cg WO_cg WS_cg WSr_cg WH_cg WHA_cg WG_cg WC_cg WX_cg
attribute [local simp] Env.has AV.wkr wkrL AV.wkr_refl wkrL_refl AV.ltI ltL leHW hasW Env.lt AV.ids idsL AV.sub subL AV.ren AV.frz frzS frzP frzE frzL Heap.frz Blk.frz Blk.ren renL rnS rnP hasR leR idsL_bv subL_bv
attribute [local simp] cleanL_take cleanL_drop ltL_take ltL_drop idsL_take idsL_drop subL_take subL_drop cleanL_append ltL_append idsL_append subL_append
attribute [local simp] renE mvN mvH
attribute [local simp] fwd backH putL bwd
attribute [local simp] u8i u8e List.idxOf_cons
attribute [local simp] hasRW leRW
/-- Is a request one, by the document? -/
def rOk (r : Req16) : Bool :=
  if r.op = 0 ∨ r.op = 3 ∨ r.op = 4 ∨ r.op = 7 ∨ r.op = 12 then decide (r.ty = 0 ∧ r.size = 0 ∧ r.data = [])
  else if r.op = 1 then decide (r.data = [])
  else if r.op = 2 then decide (r.ty = 0 ∧ r.size < 65536 ∧ r.data = [])
  else if r.op = 6 ∨ r.op = 9 then decide (r.size = 0 ∧ r.data = [])
  else if r.op = 8 then decide (r.ty = 0 ∧ r.size = 0 ∧ r.data ≠ [] ∧ r.data.length ≤ 64)
  else false
def rEnc (r : Req16) : List UInt8 := if fOk r.op = true ∨ r.op = 8 then encB r else []
theorem fRREnc_spec (r : Req16) (md : Md) (hmd : md.bw = false) (hs : r.size < 2 ^ 32) (hd : r.data.length < 2 ^ 30) :
    FSpec Try.prog 34 [.agg [bv r.op, bv r.ty, .int .u32 r.size, .list 1 md (r.data.map bv)]] [] (.tuple [.list 1 ⟨false, false, false⟩ ((rEnc r).map bv), .bool (rOk r)]) [] := by
  obtain ⟨o, ty, size, data⟩ := r
  simp only at hs hd ⊢
  have tz : (ty.toNat = 0) = (ty = 0) := propext ⟨fun h => UInt8.toNat_inj.1 h, fun h => by simp [h]⟩
  refine FSpec.of_W fRREnc_low (by simp) ?_
  simp only [initEnv]
  simp [hmd]
  refine WG_join [(1, .ptr 0 0), (4, .slice 1 1 0 1 (some 1)), (5, .bool (decide (ty = 0 ∧ size = 0 ∧ data = [])))] [some ⟨[.int .u8 o.toNat, .int .u8 ty.toNat, .int .u32 size, .list 1 md (data.map bv)], 72, true⟩, some ⟨[.int .u8 o.toNat], 5, true⟩] ?_ (fun k' Q' hk => ?_)
  rotate_left
  · by_cases h1 : ty = 0
    · by_cases h2 : size = 0
      · by_cases h3 : data = []
        · simp [h1, h2, h3] at hk ⊢
          exact hk
        · simp [h1, h2, h3] at hk ⊢
          exact hk
      · have h2' : ¬ (size : Int) = 0 := by omega
        simp [h1, h2] at hk ⊢
        exact hk
    · simp [tz, h1] at hk ⊢
      exact hk
  generalize hpl : decide (ty = 0 ∧ size = 0 ∧ data = []) = pl
  simp
  by_cases hz : o = 0 ∨ o = 3 ∨ o = 4 ∨ o = 7 ∨ o = 12
  · rcases hz with rfl | rfl | rfl | rfl | rfl <;>
    (simp
     refine fin_F 1 rfl (fin_W ?_)
     simp [rEnc, rOk, encB, preB, leB, fOk, fT, fS, hpl])
  have n0 : ¬ o = 0 := fun h => hz (by simp [h])
  have n3 : ¬ o = 3 := fun h => hz (by simp [h])
  have n4 : ¬ o = 4 := fun h => hz (by simp [h])
  have n7 : ¬ o = 7 := fun h => hz (by simp [h])
  have n12 : ¬ o = 12 := fun h => hz (by simp [h])
  have n00 : ¬ o.toNat = 0 := fun h => n0 (UInt8.toNat_inj.1 h)
  by_cases h8 : o = 8
  · subst h8
    by_cases h0 : data = []
    · subst h0
      simp
      by_cases h1 : ty = 0
      · by_cases h2 : size = 0
        · simp [h1, h2]
          refine fin_F 1 rfl (fin_W ?_)
          simp [rEnc, rOk, encB, preB, leB, fOk, fT, fS, List.take_of_length_le, h1, h2]
        · simp [h1, h2]
          refine fin_F 1 rfl (fin_W ?_)
          simp [rEnc, rOk, encB, preB, leB, fOk, fT, fS, List.take_of_length_le, h1, h2]
      · simp [tz, h1]
        refine fin_F 1 rfl (fin_W ?_)
        simp [rEnc, rOk, encB, preB, leB, fOk, fT, fS, List.take_of_length_le, h1]
    · have e1 : ¬ 1 + data.length ≤ 1 := by have := List.length_pos_iff.2 h0; omega
      simp [e1]
      refine ⟨by omega, ?_⟩
      have e2 : 0 < data.length := List.length_pos_iff.2 h0
      by_cases h1 : ty = 0
      · by_cases h2 : size = 0
        · by_cases h3 : data.length ≤ 64
          · have e3 : (data.length : Int) ≤ 64 := by omega
            simp [h1, h2, e2, h3, e3]
            refine fin_F 2 rfl (fin_W ?_)
            simp [rEnc, rOk, encB, preB, leB, fOk, fT, fS, List.take_of_length_le, Nat.add_comm 1 data.length, h0, h1, h2, h3]
          · have e3 : ¬ (data.length : Int) ≤ 64 := by omega
            simp [h1, h2, e2, h3, e3]
            refine fin_F 2 rfl (fin_W ?_)
            simp [rEnc, rOk, encB, preB, leB, fOk, fT, fS, List.take_of_length_le, Nat.add_comm 1 data.length, h0, h1, h2, h3]
        · simp [h1, h2]
          refine fin_F 2 rfl (fin_W ?_)
          simp [rEnc, rOk, encB, preB, leB, fOk, fT, fS, List.take_of_length_le, Nat.add_comm 1 data.length, h0, h1, h2]
      · simp [tz, h1]
        refine fin_F 2 rfl (fin_W ?_)
        simp [rEnc, rOk, encB, preB, leB, fOk, fT, fS, List.take_of_length_le, Nat.add_comm 1 data.length, h0, h1]
  by_cases h69 : o = 6 ∨ o = 9
  · by_cases h2 : size = 0
    · by_cases h3 : data = []
      · rcases h69 with rfl | rfl <;>
        (simp [h2, h3]
         refine fin_F 2 rfl (fin_W ?_)
         simp [rEnc, rOk, encB, preB, leB, fOk, fT, fS, List.take_of_length_le, h2, h3])
      · rcases h69 with rfl | rfl <;>
        (simp [h2, h3]
         refine fin_F 2 rfl (fin_W ?_)
         simp [rEnc, rOk, encB, preB, leB, fOk, fT, fS, List.take_of_length_le, h2, h3])
    · rcases h69 with rfl | rfl <;>
      (simp [h2]
       refine fin_F 2 rfl (fin_W ?_)
       simp [rEnc, rOk, encB, preB, leB, fOk, fT, fS, List.take_of_length_le, h2])
  have n6 : ¬ o = 6 := fun h => h69 (by simp [h])
  have n9 : ¬ o = 9 := fun h => h69 (by simp [h])
  by_cases h1 : o = 1
  · subst h1
    have s0 := shr_u8 size 0
    have s1 := shr_u8 size 1
    have s2 := shr_u8 size 2
    have s3 := shr_u8 size 3
    simp at s0 s1 s2 s3
    simp [s0, s1, s2, s3, show min 8 IntKind.u32.bits = 8 from rfl, show min 16 IntKind.u32.bits = 16 from rfl, show min 24 IntKind.u32.bits = 24 from rfl]
    refine fin_F 6 rfl (fin_W ?_)
    simp [rEnc, rOk, encB, preB, leB, fOk, fT, fS, List.range_succ]
  by_cases h2 : o = 2
  · subst h2
    have s0 := shr_u8 size 0
    have s1 := shr_u8 size 1
    simp at s0 s1
    have m8 : min 8 IntKind.u32.bits = 8 := rfl
    by_cases h3 : ty = 0
    · by_cases h4 : size < 65536
      · have e4 : (size : Int) < 65536 := by omega
        by_cases h5 : data = []
        · simp [s0, s1, m8, h3, h4, e4, h5]
          refine fin_F 3 rfl (fin_W ?_)
          simp [rEnc, rOk, encB, preB, leB, fOk, fT, fS, List.range_succ, h3, h4, h5]
        · simp [s0, s1, m8, h3, h4, e4, h5]
          refine fin_F 3 rfl (fin_W ?_)
          simp [rEnc, rOk, encB, preB, leB, fOk, fT, fS, List.range_succ, h3, h4, h5]
      · have e4 : ¬ (size : Int) < 65536 := by omega
        simp [s0, s1, m8, h3, h4, e4]
        refine fin_F 3 rfl (fin_W ?_)
        simp [rEnc, rOk, encB, preB, leB, fOk, fT, fS, List.range_succ, h3, h4]
    · simp [s0, s1, m8, tz, h3]
      refine fin_F 3 rfl (fin_W ?_)
      simp [rEnc, rOk, encB, preB, leB, fOk, fT, fS, List.range_succ, h3]
  have hk : fOk o = false := by simp [fOk, n0, h1, h2, n3, n4, n6, n7, n9, n12]
  simp [n00, n0, h1, h2, n3, n4, n6, n7, n9, n12, h8]
  exact fin_W (by simp [rEnc, rOk, hk, n0, h1, h2, n3, n4, n6, n7, n9, n12, h8])
end Go.Proofs.Ytlffcidcopibmaa
