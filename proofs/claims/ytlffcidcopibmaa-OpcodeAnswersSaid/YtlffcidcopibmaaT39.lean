/-
  chapter 16: answers
-/
import Derived.Test.YtlffcidcopibmaaT34
set_option linter.unusedSimpArgs false
set_option linter.unusedVariables false
set_option linter.unusedSectionVars false
namespace Go.Proofs.Ytlffcidcopibmaa
open Go Go.Fw
attribute [local simp] bv cleanL_bv toBytes_bv ltL_bv atF_drop WS_at_bytes W_nil W_skip W_seq W_reg W_draw W_drawP W_kill W_keep W_block W_blk W_exit W_ret WX_blk WX_c WX_lp WX_li W_li W_condT W_condF W_cond WC_true WC_false
  WR_nil WR_cons WR_o1 WR_o2 o1_chk o2_chk WR_grd WG_tt WG_ff WG_tf WG_ft WG_none WS_some WS_ok1 WSr_no WSr_some WSr_ok1 WSr_at_bytes WH_some WHA_some chkF_cons chkF_nil chkE_some chkE_ok1 chkE_at evF WO_mv WO_pick WO_bin WO_isNil WO_eqA WO_un WO_convI WO_toStr WO_ofStr WO_build WO_buildF WO_load WO_nilCheck WO_fieldAddr WO_field WO_idxA WO_idxS
  WO_ixA WO_slS WO_slA WO_len WO_lenK WO_appF WO_extract WO_s2a WO_iface WO_min WO_max WO_alloc WO_box WO_buildO WO_store WO_appO WO_copy WO_makeS WO_allocA WO_makeA WO_cvt cvtF_slice WO_look lookF_map alAF mkAF WO_func bind1_v bind2_v bindH_v bindH2_v bindS_v okO_v pickO_t pickO_f
  Env.keep Env.get Env.set Env.del Env.dels Env.setO Env.opd Env.opds Env.opdO Env.parts intF aggF fillA splice cleanL AV.clean bndF fldF_one fldF_many toStrF boxF buildOF
  loadF_rptr loadF_rptrN atF_zero atF_succ blk_cons_zero blk_cons_succ loadF_p loadF_pN atB_some atBN_some retPost resL one
  okc_bool cells_bool notStr_bool okc_int cells_int notStr_int okc_str cells_str notStr_str okc_nil cells_nil notStr_nil okc_ptr cells_ptr notStr_ptr okc_rptr cells_rptr notStr_rptr okc_slice cells_slice notStr_slice 
  okc_list cells_list notStr_list okc_func cells_func notStr_func okc_nilFunc cells_nilFunc notStr_nilFunc okc_iface cells_iface notStr_iface okc_nilIface cells_nilIface notStr_nilIface okc_agg cells_agg notStr_agg 
  okc_tuple cells_tuple notStr_tuple lenF_slice lenF_list lenF_str faF_ptr faF_rptr idxSF_slice idxSF_list idxAF_ptr idxAF_rptr ixAF_many ixAF_one convF_int unF_neg unF_xor unF_not nilF_0nil nilF_0ptr nilF_0rptr nilF_1 
  nilF_2nil nilF_2f nilF_3nil nilF_3f binF_int binF_beq binF_bne binF_sadd binF_seq binF_sne sliceCells_list sliceCells_str sliceCells_slice cutC_some szAV_list szAV_str szAV_slice oneSl_list oneSl_slice slSF_sliceS 
  slSF_sliceN slSF_list slAF_rptr slAF_ptr appFF_list appOF_list appOF_sliceN appOF_sliceS storeF_ptr copyF_slice extF_tuple s2aF_slice s2aF_list nchkF_ptr nchkF_rptr nchkF_f mmF_int ofStrF_str mkSF_int eqAF_agg
attribute [local irreducible] W WX WR WO WS WSr WH WHA WG WC FSpec
attribute [local simp] lendAll
attribute [local congr] W_cg WR_cg WO_cg WS_cg WSr_cg WH_cg WHA_cg WG_cg WC_cg WX_cg
attribute [local simp] Env.has AV.wkr wkrL AV.wkr_refl wkrL_refl AV.ltI ltL leHW hasW Env.lt AV.ids idsL AV.sub subL AV.ren AV.frz frzS frzP frzE frzL Heap.frz Blk.frz Blk.ren renL rnS rnP hasR leR idsL_bv subL_bv
attribute [local simp] cleanL_take cleanL_drop ltL_take ltL_drop idsL_take idsL_drop subL_take subL_drop cleanL_append ltL_append idsL_append subL_append
attribute [local simp] renE mvN mvH
attribute [local simp] fwd backH putL bwd
attribute [local simp] u8i u8e List.idxOf_cons
attribute [local simp] hasRW leRW
theorem wrap8n' {n : Nat} (h : n < 256) : IntKind.u8.wrap (n : Int) = n := by
  unfold IntKind.wrap
  simp [IntKind.signed, IntKind.bits]
  omega
theorem fAEnc_spec (o c : UInt8) (d : List UInt8) (md : Md) (hmd : md.bw = false) (hd : d.length < 2 ^ 40) : FSpec Try.prog 19 [.agg [bv o, bv c, .list 1 md (d.map bv)]] [] (.list 1 ⟨false, false, false⟩ ((96 :: o :: c :: d : List UInt8).map bv)) [] := by
  refine FSpec.of_W fAEnc_low (by simp) ?_
  simp only [initEnv]
  simp [hmd]
  refine ⟨by omega, ?_⟩
  exact fin_W (by simp)
/-- The answer of bytes, and what is wrong. -/
def ansQ : List UInt8 → (UInt8 × UInt8 × List UInt8) × Int
  | x :: o :: c :: d => if x = 96 then ((o, c, d), 0) else ((0, 0, []), 7)
  | _ => ((0, 0, []), 18)
def ansR (x : (UInt8 × UInt8 × List UInt8) × Int) : AV := .tuple [.agg [bv x.1.1, bv x.1.2.1, .list 1 ⟨false, false, false⟩ (x.1.2.2.map bv)], .int .i64 x.2]
theorem fAnswered_spec (b : List UInt8) (md : Md) (hb : b.length < 2 ^ 40) : FSpec Try.prog 20 [.list 1 md (b.map bv)] [] (ansR (ansQ b)) [] := by
  refine FSpec.of_W fAnswered_low (by simp) ?_
  simp only [initEnv]
  simp
  match b, hb with
  | [], _ =>
    simp [loadWP]
    exact fin_W (by simp [ansR, ansQ])
  | [_], _ =>
    simp [loadWP]
    exact fin_W (by simp [ansR, ansQ])
  | [_, _], _ =>
    simp [loadWP]
    exact fin_W (by simp [ansR, ansQ])
  | x :: o :: c :: d, hb =>
    simp at hb
    have e1 : ¬ (d.length : Int) + 1 + 1 + 1 < 3 := by omega
    by_cases h : x = 96
    · subst h
      simp [e1]
      refine ⟨by omega, ?_⟩
      refine WO_callP (as' := [.list 1 ⟨md.nl, md.full, md.bw⟩ (d.map bv)]) [] rfl (by simp [List.take_of_length_le]) (fSlClone_spec d _ (by omega)) (by simp) (by simp) ?_
      simp [loadWP]
      exact fin_W (by simp [ansR, ansQ])
    · simp [e1, h, loadWP]
      exact fin_W (by simp [ansR, ansQ, h])
theorem fWord_spec (n : Nat) (hn : n < 2 ^ 32) : FSpec Try.prog 21 [.int .u32 n] [] (.list 1 ⟨false, false, false⟩ ((leB 4 n).map bv)) [] := by
  refine FSpec.of_W fWord_low (by simp) ?_
  simp only [initEnv]
  simp
  have hlb : ∀ k, (leB k n).length = k := by intro k; simp [leB]
  refine W_loop (X := { i : Nat // i ≤ 4 }) (fun i => [(0, .int .u32 (n / 256 ^ i.1 : Nat)), (3, .slice 1 0 0 i.1 none), (4, .int .i64 i.1)]) (fun i => [some ⟨(leB i.1 n).map bv, 5, false⟩]) (fun i => 4 - i.1) ⟨0, by simp⟩ retPost_le ?_ ?_
  · refine cut_trans (cut_ghost 3 1 5 (by simp) rfl rfl) (cut_w ?_)
    simp [leB]
  · rintro ⟨i, hi⟩
    simp only
    simp
    refine WC_dec (fun h => ?_) (fun h => ?_)
    · simp [hlb]
      refine ⟨by omega, ?_⟩
      have hq : (n : Int) / 256 ^ i = ((n / 256 ^ i : Nat) : Int) := by simp
      have hqn : n / 256 ^ (i + 1) = n / 256 ^ i / 256 := by rw [Nat.pow_succ, ← Nat.div_div_eq_div_mul]
      have hle : n / 256 ^ i ≤ n := Nat.div_le_self _ _
      have h1 : ((n / 256 ^ i : Nat) : Int).tdiv 256 = ((n / 256 ^ i / 256 : Nat) : Int) := rfl
      have h2 : ((n / 256 ^ i : Nat) : Int).tmod 256 = ((n / 256 ^ i % 256 : Nat) : Int) := rfl
      have h3 : IntKind.u8.wrap ((n / 256 ^ i % 256 : Nat) : Int) = ((UInt8.ofNat (n / 256 ^ i)).toNat : Int) := by
        rw [wrap8n' (by omega), UInt8.toNat_ofNat']
      rw [hq, h1, h2, h3, wrap32n (by omega)]
      refine ⟨⟨i + 1, by omega⟩, by simp; omega, ?_⟩
      refine cut_rw [1] (by simp) rfl ?_ ?_
      · have hqz : (n : Int) / 256 ^ (i + 1) = (n : Int) / 256 ^ i / 256 := by
          have h := congrArg (fun x : Nat => (x : Int)) hqn
          simpa using h
        simp [hqz, wrap64 (n := (i : Int) + 1) (by omega) (by omega)]
      · simp [leB_succ, List.take_of_length_le, hlb]
    · have : i = 4 := by omega
      subst this
      simp
      exact fin_sl 0 rfl (by simp [hlb]) (by simp) (by simp)
end Go.Proofs.Ytlffcidcopibmaa
