/-
  the decoder
-/
import Derived.Test.YtlffcidcopibmaaK2
set_option linter.unusedSimpArgs false
set_option linter.unusedVariables false
set_option linter.unusedSectionVars false
namespace Go.Proofs.Ytlffcidcopibmaa
open Go Go.Fw
attribute [local simp] bv cleanL_bv toBytes_bv ltL_bv atF_drop WS_at_bytes W_nil W_skip W_seq W_reg W_draw W_kill W_keep W_block W_blk W_exit W_ret WX_blk WX_c WX_lp WX_li W_li W_condT W_condF W_cond WC_true WC_false
  WR_nil WR_cons WR_o1 WR_o2 o1_chk o2_chk WR_grd WG_tt WG_ff WG_tf WG_ft WG_none WS_some WS_ok1 WSr_no WSr_some WSr_ok1 WSr_at_bytes WH_some chkF_cons chkF_nil chkE_some chkE_ok1 chkE_at evF WO_mv WO_pick WO_bin WO_isNil WO_eqA WO_un WO_convI WO_toStr WO_ofStr WO_build WO_buildF WO_load WO_nilCheck WO_fieldAddr WO_field WO_idxA WO_idxS
  WO_ixA WO_slS WO_slA WO_len WO_lenK WO_appF WO_extract WO_s2a WO_iface WO_min WO_max WO_alloc WO_box WO_buildO WO_store WO_appO WO_copy WO_makeS WO_func bind1_v bind2_v bindH_v bindH2_v bindS_v okO_v pickO_t pickO_f
  Env.keep Env.get Env.set Env.del Env.dels Env.setO Env.opd Env.opds Env.opdO Env.parts intF aggF fillA splice cleanL AV.clean bndF fldF_one fldF_many toStrF boxF buildOF
  loadF_rptr loadF_rptrN atF_zero atF_succ blk_cons_zero blk_cons_succ loadF_p loadF_pN atB_some atBN_some retPost resL one
  okc_bool cells_bool notStr_bool okc_int cells_int notStr_int okc_str cells_str notStr_str okc_nil cells_nil notStr_nil okc_ptr cells_ptr notStr_ptr okc_rptr cells_rptr notStr_rptr okc_slice cells_slice notStr_slice 
  okc_list cells_list notStr_list okc_func cells_func notStr_func okc_nilFunc cells_nilFunc notStr_nilFunc okc_iface cells_iface notStr_iface okc_nilIface cells_nilIface notStr_nilIface okc_agg cells_agg notStr_agg 
  okc_tuple cells_tuple notStr_tuple lenF_slice lenF_list lenF_str faF_ptr faF_rptr idxSF_slice idxSF_list idxAF_ptr idxAF_rptr ixAF_many ixAF_one convF_int unF_neg unF_xor unF_not nilF_0nil nilF_0ptr nilF_0rptr nilF_1 
  nilF_2nil nilF_2f nilF_3nil nilF_3f binF_int binF_beq binF_bne binF_sadd binF_seq binF_sne sliceCells_list sliceCells_str sliceCells_slice cutC_some szAV_list szAV_str szAV_slice oneSl_list oneSl_slice slSF_sliceS 
  slSF_sliceN slSF_list slAF_rptr slAF_ptr appFF_list appOF_list appOF_sliceN appOF_sliceS storeF_ptr copyF_slice extF_tuple s2aF_slice s2aF_list nchkF_ptr nchkF_rptr nchkF_f mmF_int ofStrF_str mkSF_int eqAF_agg
attribute [local irreducible] W WX WR WO WS WSr WH WG WC FSpec
attribute [local simp] lendAll
attribute [local congr] W_cg WR_cg WO_cg WS_cg WSr_cg WH_cg WG_cg WC_cg WX_cg
attribute [local simp] Env.has AV.wkr wkrL AV.wkr_refl wkrL_refl AV.ltI ltL leHW hasW Env.lt AV.ids idsL AV.sub subL AV.ren AV.frz frzS frzP frzE frzL Heap.frz Blk.frz Blk.ren renL rnS rnP hasR leR idsL_bv subL_bv
attribute [local simp] cleanL_take cleanL_drop ltL_take ltL_drop idsL_take idsL_drop subL_take subL_drop cleanL_append ltL_append idsL_append subL_append
attribute [local simp] renE mvN mvH
attribute [local simp] fwd backH putL bwd
attribute [local simp] u8i u8e List.idxOf_cons
attribute [local simp] hasRW leRW
/-- slices.Clone -/
theorem fClone_spec (b : List UInt8) (md : Md) (hb : b.length < 2 ^ 47) : FSpec Try.prog 35 [.list 1 md (b.map bv)] [] (.list 1 ⟨false, false, false⟩ (b.map bv)) [] := by
  by_cases h0 : md.nl = true ∧ b ≠ []
  · exact FSpec.not_nil (i := 0) rfl h0.1 (by simpa using h0.2)
  refine FSpec.of_W fClone_low (by simp) ?_
  simp only [initEnv]
  simp
  refine W_regN rfl rfl (fun c hc => ?_)
  simp at hc
  simp
  refine WC_b (fun h => ?_) (fun h => ?_)
  · have : b = [] := by
      rcases b with _ | ⟨x, b⟩
      · rfl
      · subst h; simp at hc h0; exact absurd hc.symm (by simp [h0])
    subst this
    simp
    exact fin_W (by simp)
  · simp
    refine ⟨by omega, ?_⟩
    exact fin_W (by simp)
def dH (text : List UInt8) (most : Int) (esc skips : Bool) : Heap := [some ⟨[.slice 1 1 0 text.length none, .int .i64 most, .bool esc, .bool skips], 84, true⟩, some ⟨text.map bv, 5, false⟩]
def dH' (text : List UInt8) (most : Int) (esc skips : Bool) : Heap := [some ⟨[.slice 1 2 0 text.length none, .int .i64 most, .bool esc, .bool skips], 84, true⟩, none, some ⟨text.map bv, 5, false⟩]
theorem dH_fin (text : List UInt8) (most : Int) (esc skips : Bool) (r v : AV) (hv : AV.wkr v r ∧ v.ids (fun _ => false) = true ∧ r.ltI 3 = true) : fin 2 r (dH' text most esc skips) v (dH text most esc skips) := by
  refine fin_move 1 (b := ⟨text.map bv, 5, false⟩) rfl ?_
  simp only [AV.ren]
  rw [AV.sub_free v hv.2.1]
  refine fin_W ⟨hv.1, hv.2.2, ?_⟩
  simp [dH, dH']
theorem fTake_spec (text : List UInt8) (most : Int) (esc skips : Bool) (c : UInt8) (h : text.length < 2 ^ 40) : FSpec Try.prog 40 [.ptr 0 0, bv c] (dH text most esc skips) (.bool (decide ((text.length : Int) < most))) (dH' (if (text.length : Int) < most then text ++ [c] else text) most esc skips) := by
  refine FSpec.of_W fTake_low (by simp) ?_
  simp only [initEnv]
  simp [dH]
  refine WC_dec (fun h1 => ?_) (fun h1 => ?_)
  · simp [show ¬ (text.length : Int) < most by omega]
    exact dH_fin text most esc skips _ _ (by simp)
  · simp [show (text.length : Int) < most by omega, List.take_of_length_le]
    refine ⟨by omega, fin_W ?_⟩
    simp [dH']
theorem fClear_spec (text : List UInt8) (most : Int) (esc skips : Bool) (h : text.length < 2 ^ 40) : FSpec Try.prog 39 [.ptr 0 0] (dH text most esc skips) (.list 1 ⟨false, false, false⟩ (text.map bv)) (dH' [] most esc skips) := by
  refine FSpec.of_W fClear_low (by simp) ?_
  simp only [initEnv]
  simp [dH]
  refine WO_callP (as' := [.list 1 ⟨false, false, true⟩ (text.map bv)]) [1] rfl (by simp [List.take_of_length_le]) (fClone_spec text _ (by omega)) (by simp) (by simp) ?_
  simp
  refine fin_ghostB 0 0 1 5 (by simp) rfl rfl rfl (fin_W ?_)
  simp [dH']
theorem fFail_spec (text : List UInt8) (most : Int) (esc skips : Bool) (err : Int) (h : text.length < 2 ^ 40) : FSpec Try.prog 38 [.ptr 0 0, .int .i64 err] (dH text most esc skips) (.tuple [.list 1 ⟨false, false, false⟩ [], .int .i64 err]) (dH' [] most false true) := by
  refine FSpec.of_W fFail_low (by simp) ?_
  simp only [initEnv]
  simp
  refine WO_call rfl (fClear_spec text most esc skips h) (by simp) ?_
  simp [dH, dH']
  refine fin_W ?_
  simp
/-- What a byte brings a decoder, of a state (text, escaped, skips): a text, an error; the state then. -/
def pushF (most : Int) (text : List UInt8) (c : UInt8) : (List UInt8 × Int) × List UInt8 × Bool × Bool := if (text.length : Int) < most then (([], 0), text ++ [c], false, false) else (([], 17), [], false, true)
def feedF (most : Int) (s : List UInt8 × Bool × Bool) (c : UInt8) : (List UInt8 × Int) × List UInt8 × Bool × Bool :=
  if s.2.2 = true then (([], 0), s.1, s.2.1, decide (¬ c = 192))
  else if s.2.1 = true then (if c = 220 then pushF most s.1 192 else if c = 221 then pushF most s.1 219 else (([], 7), [], false, decide (¬ c = 192)))
  else if c = 192 then ((s.1, 0), [], s.2.1, s.2.2)
  else if c = 219 then (([], 0), s.1, true, s.2.2)
  else pushF most s.1 c
def feedR (r : List UInt8 × Int) : AV := .tuple [.list 1 ⟨false, false, false⟩ (r.1.map bv), .int .i64 r.2]
theorem fFeed_nil (c : UInt8) : FSpec Try.prog 29 [.nil, bv c] [] (feedR ([], 1)) [] := by
  refine FSpec.of_W fFeed_low (by simp) ?_
  simp only [initEnv]
  simp
  refine fin_W ?_
  simp [feedR]
theorem fFeed_spec (text : List UInt8) (most : Int) (esc skips : Bool) (c : UInt8) (h : text.length < 2 ^ 40) : FSpec Try.prog 29 [.ptr 0 0, bv c] (dH text most esc skips) (feedR (feedF most (text, esc, skips) c).1)
    (dH' (feedF most (text, esc, skips) c).2.1 most (feedF most (text, esc, skips) c).2.2.1 (feedF most (text, esc, skips) c).2.2.2) := by
  refine FSpec.of_W fFeed_low (by simp) ?_
  simp only [initEnv]
  simp [dH, -W_block]
  rw [W_block]
  refine W_join_blk (Y := { x : UInt8 // feedF most (text, esc, skips) c = pushF most text x ∧ skips = false }) (fun x => [(0, .ptr 0 0), (1, bv x.1)]) (fun _ => dH text most esc false) retPost_le ?_ (fun k hk => ?_)
  · rintro ⟨x, hx, rfl⟩
    simp [dH, hx]
    refine WO_call rfl (fTake_spec text most false false x h) (by simp) ?_
    by_cases hm : (text.length : Int) < most
    · simp [hm, pushF, dH']
      refine fin_W ?_
      simp [feedR]
    · simp [hm, pushF, dH']
      refine WO_callF [0, 2] rfl rfl (fFail_spec text most false false 17 h) (by simp [dH']) (by simp [dH]) (by simp) ?_
      simp [dH']
      refine fin_R [0, 1, 3] (by simp) rfl (by simp) (H1 := dH' [] most false true) (by simp [dH']) ?_
      refine fin_W ?_
      simp [feedR, dH']
  · simp [dH] at hk ⊢
    cases skips with
    | true =>
      simp [feedF]
      exact (by simpa [dH] using dH_fin text most esc (decide (¬ c = 192)) (feedR ([], 0)) (.tuple [.list 1 ⟨true, true, false⟩ [], .int .i64 0]) (by simp [feedR]))
    | false =>
      simp
      cases esc with
      | true =>
        simp
        refine WC_dec (fun h1 => ?_) (fun h1 => ?_)
        · simp
          exact hk 192 (by simp [feedF, h1]) rfl _ (by simp) (by simp)
        simp
        refine WC_dec (fun h2 => ?_) (fun h2 => ?_)
        · simp
          exact hk 219 (by simp [feedF, h1, h2]) rfl _ (by simp) (by simp)
        simp
        refine WO_call rfl (fFail_spec text most true false 7 h) (by simp) ?_
        simp [dH', feedF, h1, h2]
        refine fin_W ?_
        simp [feedR]
      | false =>
        simp
        refine WC_dec (fun h1 => ?_) (fun h1 => ?_)
        · simp
          refine WO_call rfl (fClear_spec text most false false h) (by simp) ?_
          simp [dH', feedF, h1]
          refine fin_W ?_
          simp [feedR]
        simp
        refine WC_dec (fun h2 => ?_) (fun h2 => ?_)
        · simp [feedF, h1, h2]
          exact (by simpa [dH] using dH_fin text most true false (feedR ([], 0)) (.tuple [.list 1 ⟨true, true, false⟩ [], .int .i64 0]) (by simp [feedR]))
        · simp
          exact hk c (by simp [feedF, h1, h2]) rfl _ (by simp) (by simp)
end Go.Proofs.Ytlffcidcopibmaa
