/-
  deslip
-/
import Derived.Test.YtlffcidcopibmaaT24
set_option linter.unusedSimpArgs false
set_option linter.unusedVariables false
set_option linter.unusedSectionVars false
namespace Go.Proofs.Ytlffcidcopibmaa
open Go Go.Fw
attribute [local simp] bv cleanL_bv toBytes_bv ltL_bv atF_drop WS_at_bytes W_nil W_skip W_seq W_reg W_draw W_kill W_keep W_block W_blk W_exit W_ret WX_blk WX_c WX_lp WX_li W_li W_condT W_condF W_cond WC_true WC_false
  WR_nil WR_cons WR_o1 WR_o2 o1_chk o2_chk WR_grd WG_tt WG_ff WG_tf WG_ft WG_none WS_some WS_ok1 WSr_no WSr_some WSr_ok1 WSr_at_bytes WH_some chkF_cons chkF_nil chkE_some chkE_ok1 chkE_at evF WO_mv WO_pick WO_bin WO_isNil WO_eqA WO_un WO_convI WO_toStr WO_ofStr WO_build WO_buildF WO_load WO_nilCheck WO_fieldAddr WO_field WO_idxA WO_idxS
  WO_ixA WO_slS WO_slA WO_len WO_lenK WO_appF WO_extract WO_s2a WO_iface WO_min WO_max WO_alloc WO_box WO_buildO WO_store WO_appO WO_copy WO_makeS WO_func bind1_v bind2_v bindH_v bindH2_v bindS_v okO_v pickO_t pickO_f
  Env.keep Env.get Env.set Env.del Env.dels Env.setO Env.opd Env.opds Env.opdO Env.parts intF aggF fillA splice cleanL AV.clean bndF fldF_one fldF_many toStrF boxF buildOF
  loadF_rptr loadF_rptrN atF_zero atF_succ blk_cons_zero blk_cons_succ loadF_p loadF_pN atB_some atBN_some retPost resL one
  okc_bool cells_bool notStr_bool okc_int cells_int notStr_int okc_str cells_str notStr_str okc_nil cells_nil notStr_nil okc_ptr cells_ptr notStr_ptr okc_rptr cells_rptr notStr_rptr okc_slice cells_slice notStr_slice 
  okc_list cells_list notStr_list okc_func cells_func notStr_func okc_nilFunc cells_nilFunc notStr_nilFunc okc_iface cells_iface notStr_iface okc_nilIface cells_nilIface notStr_nilIface okc_agg cells_agg notStr_agg 
  okc_tuple cells_tuple notStr_tuple lenF_slice lenF_list lenF_str faF_ptr faF_rptr idxSF_slice idxSF_list idxAF_ptr idxAF_rptr ixAF_many ixAF_one convF_int unF_neg unF_xor unF_not nilF_0nil nilF_0ptr nilF_0rptr nilF_1 
  nilF_2nil nilF_2f nilF_3nil nilF_3f binF_int binF_beq binF_bne binF_sadd binF_seq binF_sne sliceCells_list sliceCells_str sliceCells_slice cutC_some szAV_list szAV_str szAV_slice oneSl_list oneSl_slice slSF_sliceS 
  slSF_sliceN slSF_list slAF_rptr slAF_ptr appFF_list appOF_list appOF_sliceN appOF_sliceS storeF_ptr copyF_slice extF_tuple s2aF_slice s2aF_list nchkF_ptr nchkF_rptr nchkF_f mmF_int ofStrF_str mkSF_int eqAF_agg
attribute [local irreducible] W WX WR WO WS WSr WH WG WC FSpec
attribute [local simp] lendAll
attribute [local congr] W_cg WR_cg WO_cg WS_cg WSr_cg WH_cg WG_cg WC_cg WX_cg
attribute [local simp] Env.has AV.wkr wkrL AV.wkr_refl wkrL_refl AV.ltI ltL leHW hasW Env.lt AV.ids idsL AV.sub subL AV.ren AV.frz frzS frzP frzE frzL Heap.frz Blk.frz Blk.ren renL rnS rnP hasR leR idsL_bv subL_bv
attribute [local simp] cleanL_take cleanL_drop ltL_take ltL_drop idsL_take idsL_drop subL_take subL_drop cleanL_append ltL_append idsL_append subL_append
attribute [local simp] renE mvN mvH
attribute [local simp] fwd backH putL bwd
attribute [local simp] u8i u8e List.idxOf_cons
attribute [local simp] hasRW leRW
def escF (c : UInt8) : List UInt8 := if c = 192 then [219, 220] else if c = 219 then [219, 221] else [c]
def encF (b : List UInt8) : List UInt8 := b.flatMap escF
theorem escF_len (c : UInt8) : (escF c).length ≤ 2 := by unfold escF; split <;> (try split) <;> simp
theorem encF_len (b : List UInt8) : (encF b).length ≤ 2 * b.length := by
  induction b with
  | nil => simp [encF]
  | cons c b ih => have := escF_len c; simp [encF] at ih ⊢; omega
theorem fREnc_spec (b : List UInt8) (md : Md) (hb : b.length < 2 ^ 38) : FSpec Try.prog 28 [.list 1 md (b.map bv)] [] (.list 1 ⟨false, false, false⟩ ((encF b ++ [192]).map bv)) [] := by
  refine FSpec.of_W fREnc_low (by simp) ?_
  simp only [initEnv]
  simp
  refine W_loop (X := { s : Nat × List UInt8 // s.1 ≤ b.length ∧ s.2 = encF (b.take s.1) })
    (fun s => [(0, .list 1 md (b.map bv)), (3, .slice 1 0 0 s.1.2.length none), (4, .int .i64 s.1.1)]) (fun s => [some ⟨s.1.2.map bv, 5, false⟩]) (fun s => b.length - s.1.1) ⟨(0, []), by simp, by simp [encF]⟩ retPost_le ?_ ?_
  · refine cut_trans (cut_ghost 3 1 5 (by simp) rfl rfl) (cut_w ?_)
    simp
  · rintro ⟨⟨i, out⟩, hi, he⟩
    simp only at hi he ⊢
    have ho : out.length ≤ 2 * i := by rw [he]; have := encF_len (b.take i); simp at this; omega
    by_cases hlt : i < b.length
    · obtain ⟨c, r, hd⟩ : ∃ c r, b.drop i = c :: r := ⟨b[i], b.drop (i+1), by simp⟩
      have hc : b[i]? = some c := by rw [← Nat.add_zero i, ← List.getElem?_drop, hd]; rfl
      have hc' : b[i] = c := by rw [List.getElem?_eq_getElem hlt] at hc; exact Option.some.inj hc
      have ht : encF (b.take (i + 1)) = out ++ escF c := by rw [List.take_add_one, hc, he]; simp [encF]
      have w1 : IntKind.i64.wrap ((i : Int) + 1) = (i : Int) + 1 := wrap64 (by omega) (by omega)
      by_cases h1 : c = 192
      · subst h1
        simp [hlt, hc', w1, List.take_of_length_le]
        repeat (refine ⟨by omega, ?_⟩)
        refine ⟨⟨(i + 1, out ++ escF 192), by simp; omega, ht.symm⟩, by simp; omega, ?_⟩
        refine cut_rw [2] (by simp) rfl (by simp [escF]) ?_
        simp [escF]
      · by_cases h2 : c = 219
        · subst h2
          simp [hlt, hc', w1, List.take_of_length_le]
          repeat (refine ⟨by omega, ?_⟩)
          refine ⟨⟨(i + 1, out ++ escF 219), by simp; omega, ht.symm⟩, by simp; omega, ?_⟩
          refine cut_rw [2] (by simp) rfl (by simp [escF]) ?_
          simp [escF]
        · simp [hlt, hc', w1, h1, h2, List.take_of_length_le]
          repeat (refine ⟨by omega, ?_⟩)
          refine ⟨⟨(i + 1, out ++ escF c), by simp; omega, ht.symm⟩, by simp; omega, ?_⟩
          refine cut_rw [1] (by simp) rfl (by simp [escF, h1, h2]) ?_
          simp [escF, h1, h2]
    · rw [List.take_of_length_le (by omega)] at he
      simp [hlt, List.take_of_length_le]
      repeat (refine ⟨by omega, ?_⟩)
      rw [he]
      exact fin_sl 1 rfl (by simp) (wkrL_refl _) (by simp)
theorem feeds_esc (most : Nat) : ∀ (b text : List UInt8), text.length + b.length ≤ most → feedsF most (text, false, false) (encF b) = (zer (encF b).length, text ++ b, false, false)
  | [], text, _ => by simp [encF, feedsF, zer]
  | c :: b, text, h => by
    simp only [List.length_cons] at h
    have ih := feeds_esc most b (text ++ [c]) (by simp; omega)
    have hm : (text.length : Int) < most := by omega
    have hz : evOf (([] : List UInt8), 0) = ⟨0, [], 0⟩ := rfl
    rw [show encF (c :: b) = escF c ++ encF b from rfl]
    unfold escF
    by_cases h1 : c = 192
    · subst h1
      simp only [if_true, List.cons_append, List.nil_append, feedsF]
      rw [show feedF most (text, false, false) 219 = (([], 0), text, true, false) by simp [feedF], show feedF most (text, true, false) 220 = (([], 0), text ++ [192], false, false) by simp [feedF, pushF, hm], ih]
      simp [hz, zer_cons]
    · by_cases h2 : c = 219
      · subst h2
        rw [if_neg h1, if_pos rfl]
        simp only [List.cons_append, List.nil_append, feedsF]
        rw [show feedF most (text, false, false) 219 = (([], 0), text, true, false) by simp [feedF], show feedF most (text, true, false) 221 = (([], 0), text ++ [219], false, false) by simp [feedF, pushF, hm], ih]
        simp [hz, zer_cons]
      · rw [if_neg h1, if_neg h2]
        simp only [List.cons_append, List.nil_append, feedsF]
        rw [show feedF most (text, false, false) c = (([], 0), text ++ [c], false, false) by simp [feedF, pushF, h1, h2, hm], ih]
        simp [hz, zer_cons]
theorem feeds_frame (most : Nat) (b : List UInt8) (h : b.length ≤ most) : feedsF most ([], false, false) (encF b ++ [192]) = (zer (encF b).length ++ [evOf (b, 0)], [], false, false) := by
  rw [feeds_app, feeds_esc most b [] (by simpa using h)]
  simp [feedsF, feedF]
def dInv (s : List UInt8 × Bool × Bool) : Prop := s.2.2 = true → s.1 = [] ∧ s.2.1 = false
theorem feed_inv (most : Int) (s : List UInt8 × Bool × Bool) (c : UInt8) (h : dInv s) : dInv (feedF most s c).2 := by
  have hp : ∀ x, dInv (pushF most s.1 x).2 := fun x => by unfold pushF; split <;> simp [dInv]
  unfold feedF
  split
  · rename_i hs; intro _; exact h hs
  · rename_i hs
    split
    · split
      · exact hp _
      · split
        · exact hp _
        · intro _; exact ⟨rfl, rfl⟩
    · split
      · intro q; exact absurd q hs
      · split
        · intro q; exact absurd q hs
        · exact hp _
theorem feeds_inv (most : Int) : ∀ (b : List UInt8) (s : List UInt8 × Bool × Bool), dInv s → dInv (feedsF most s b).2
  | [], _, h => h
  | c :: b, s, h => feeds_inv most b _ (feed_inv most s c h)
theorem feeds_end (most : Int) (s : List UInt8 × Bool × Bool) (h : dInv s) : (feedsF most s [192]).2 = ([], false, false) := by
  obtain ⟨t, e, k⟩ := s
  cases k with
  | true =>
    obtain ⟨rfl, h2⟩ := h rfl
    simp only at h2; subst h2
    simp [feedsF, feedF]
  | false => cases e <;> simp [feedsF, feedF]
end Go.Proofs.Ytlffcidcopibmaa
