/-
  chapter 11
-/
import Derived.Test.YtlffcidcopibmaaT6
set_option linter.unusedSimpArgs false
set_option linter.unusedVariables false
set_option linter.unusedSectionVars false
namespace Go.Proofs.Ytlffcidcopibmaa
open Go Go.Fw
attribute [local simp] bv cleanL_bv toBytes_bv ltL_bv atF_drop WS_at_bytes W_nil W_skip W_seq W_reg W_draw W_kill W_keep W_block W_blk W_exit W_ret WX_blk WX_c WX_lp WX_li W_li W_condT W_condF W_cond WC_true WC_false
  WR_nil WR_cons WR_o1 WR_o2 o1_chk o2_chk WR_grd WG_tt WG_ff WG_tf WG_ft WG_none WS_some WS_ok1 WSr_no WSr_some WSr_ok1 WSr_at_bytes WH_some chkF_cons chkF_nil chkE_some chkE_ok1 chkE_at evF WO_mv WO_pick WO_bin WO_isNil WO_eqA WO_un WO_convI WO_toStr WO_ofStr WO_build WO_buildF WO_load WO_nilCheck WO_fieldAddr WO_field WO_idxA WO_idxS
  WO_ixA WO_slS WO_slA WO_len WO_lenK WO_appF WO_extract WO_s2a WO_iface WO_min WO_max WO_alloc WO_box WO_buildO WO_store WO_appO WO_copy WO_makeS WO_func bind1_v bind2_v bindH_v bindH2_v bindS_v okO_v pickO_t pickO_f
  Env.keep Env.get Env.set Env.del Env.dels Env.setO Env.opd Env.opds Env.opdO Env.parts intF aggF fillA splice cleanL AV.clean bndF fldF_one fldF_many toStrF boxF buildOF
  loadF_rptr loadF_rptrN atF_zero atF_succ blk_cons_zero blk_cons_succ loadF_p loadF_pN atB_some atBN_some retPost resL one
  okc_bool cells_bool notStr_bool okc_int cells_int notStr_int okc_str cells_str notStr_str okc_nil cells_nil notStr_nil okc_ptr cells_ptr notStr_ptr okc_rptr cells_rptr notStr_rptr okc_slice cells_slice notStr_slice 
  okc_list cells_list notStr_list okc_func cells_func notStr_func okc_nilFunc cells_nilFunc notStr_nilFunc okc_iface cells_iface notStr_iface okc_nilIface cells_nilIface notStr_nilIface okc_agg cells_agg notStr_agg 
  okc_tuple cells_tuple notStr_tuple lenF_slice lenF_list lenF_str faF_ptr faF_rptr idxSF_slice idxSF_list idxAF_ptr idxAF_rptr ixAF_many ixAF_one convF_int unF_neg unF_xor unF_not nilF_0nil nilF_0ptr nilF_0rptr nilF_1 
  nilF_2nil nilF_2f nilF_3nil nilF_3f binF_int binF_beq binF_bne binF_sadd binF_seq binF_sne sliceCells_list sliceCells_str sliceCells_slice cutC_some szAV_list szAV_str szAV_slice oneSl_list oneSl_slice slSF_sliceS 
  slSF_sliceN slSF_list slAF_rptr slAF_ptr appFF_list appOF_list appOF_sliceN appOF_sliceS storeF_ptr copyF_slice extF_tuple s2aF_slice s2aF_list nchkF_ptr nchkF_rptr nchkF_f mmF_int ofStrF_str mkSF_int eqAF_agg
attribute [local irreducible] W WX WR WO WS WSr WH WG WC FSpec
attribute [local simp] lendAll
attribute [local congr] W_cg WR_cg WO_cg WS_cg WSr_cg WH_cg WG_cg WC_cg WX_cg
attribute [local simp] Env.has AV.wkr wkrL AV.wkr_refl wkrL_refl AV.ltI ltL leHW hasW Env.lt AV.ids idsL AV.sub subL AV.ren AV.frz frzS frzP frzE frzL Heap.frz Blk.frz Blk.ren renL rnS rnP hasR leR idsL_bv subL_bv
attribute [local simp] cleanL_take cleanL_drop ltL_take ltL_drop idsL_take idsL_drop subL_take subL_drop cleanL_append ltL_append idsL_append subL_append
theorem lastT_snoc (l : List It2) (x : It2) : lastT (l ++ [x]) = x.tag := by simp [lastT]
/-- bosunref11.Encode: the bytes; the error's number. -/
theorem fREncode_spec (l : List It2) (md : Md) (hl : l.length < 2 ^ 62) : FSpec Try.prog 17 [.list 2 md (cells2 l)] [] (encR (tlvE l 0 0 [])) [] := by
  refine FSpec.of_W fREncode_low (by simp) ?_
  simp only [initEnv]
  simp
  refine W_loop (X := { s : Nat × List UInt8 // s.1 ≤ l.length ∧ s.1 ≤ 16 ∧ s.2.length ≤ s.1 * 202 ∧ tlvE (l.drop s.1) (lastT (l.take s.1)) s.1 s.2 = tlvE l 0 0 [] })
    (fun s => [(0, .list 2 md (cells2 l)), (4, .slice 1 0 0 s.1.2.length none), (5, .int .i64 s.1.1)]) (fun s => [some ⟨s.1.2.map bv, 5, false⟩]) (fun s => l.length - s.1.1) ⟨(0, []), by simp, by simp, by simp, rfl⟩ retPost_le ?_ ?_
  · refine cut_trans (cut_ghost 4 1 5 (by simp) rfl rfl) (cut_w ?_)
    simp
  · rintro ⟨⟨i, out⟩, hi, h16, ho, he⟩
    simp only at hi h16 ho he ⊢
    have er : ∀ {n : Int} {Hx : Heap}, ([], n) = tlvE l 0 0 [] → fin 0 (encR (tlvE l 0 0 [])) [] (.tuple [.list 1 ⟨true, true, false⟩ [], .int .i64 n]) Hx := fun q => by
      rw [← q]; refine fin_W ?_; simp [encR]
    simp
    refine WC_dec (fun hlt => ?_) (fun hlt => ?_)
    · obtain ⟨x, r, hd⟩ : ∃ x r, l.drop i = x :: r := ⟨l[i], l.drop (i+1), by simp⟩
      have hd2 : l.drop (i + 1) = r := by rw [← List.drop_drop, hd]; rfl
      have ht2 : lastT (l.take (i + 1)) = x.tag := by
        rw [List.take_add_one, ← Nat.add_zero i, ← List.getElem?_drop, hd]; exact lastT_snoc _ _
      rw [hd, tlvE] at he
      simp [hd]
      refine ⟨hlt, ?_⟩
      refine WG_join [(0, .list 2 md (cells2 l)), (4, .slice 1 0 0 out.length none), (5, .int .i64 i), (35, .bool (decide (x.tag ≤ lastT (l.take i))))] [some ⟨out.map bv, 5, false⟩] ?_ (fun k Q hW => ?_)
      rotate_left
      · refine WG_decF (fun hz => ?_) (fun hz => ?_)
        · simp [show x.tag ≤ lastT (l.take i) from UInt8.le_iff_toNat_le.2 (by omega)] at hW
          simpa using hW
        · simp
          refine WG_decT (fun hq => ?_) (fun hq => ?_)
          · obtain ⟨j, rfl⟩ : ∃ j, i = j + 1 := ⟨i - 1, by omega⟩
            obtain ⟨y, s, hs⟩ : ∃ y s, l.drop j = y :: s := ⟨l[j], l.drop (j+1), by simp⟩
            have hj : lastT (l.take (j + 1)) = y.tag := by
              rw [List.take_add_one, ← Nat.add_zero j, ← List.getElem?_drop, hs]; exact lastT_snoc _ _
            have hd' : (cells2 l).drop ((j + 1) * 2) = cells2 (x :: r) := by rw [cells2_drop, hd]
            simp [hd]
            rw [wrap64 (by omega) (by omega)]
            simp [hj, UInt8.le_iff_toNat_le, hs] at hW ⊢
            repeat (refine ⟨by omega, ?_⟩)
            exact hW
          · have hq : i = 0 := by omega
            subst hq
            simp [show ¬ x.tag ≤ lastT (l.take 0) from fun q => hz (by have := UInt8.le_iff_toNat_le.1 q; simp [lastT] at this; exact this)] at hW
            simp [show ¬ x.tag ≤ lastT [] from fun q => hz (by have := UInt8.le_iff_toNat_le.1 q; simp [lastT] at this; exact this)] at hW
            simpa using hW
      simp
      refine WC_dec (fun h7 => ?_) (fun h7 => ?_)
      · rw [if_pos h7] at he
        simp
        exact er he
      rw [if_neg h7] at he
      simp [hd]
      repeat (refine ⟨by omega, ?_⟩)
      refine WG_decF (fun h8 => ?_) (fun h8 => ?_)
      · rw [if_pos (.inl (by omega))] at he
        simp
        exact er he
      simp
      refine WC_dec (fun h9 => ?_) (fun h9 => ?_)
      · rw [if_pos (.inr (by omega))] at he
        simp
        exact er he
      rw [if_neg (by omega)] at he
      have e1 : List.take out.length (out.map bv) = out.map bv := List.take_of_length_le (by simp)
      simp [hd, wrap8_len (show x.val.length ≤ 200 by omega), e1]
      repeat (refine ⟨by omega, ?_⟩)
      have hl2 : (out ++ [x.tag, UInt8.ofNat x.val.length] ++ x.val).length = out.length + 2 + x.val.length := by simp; omega
      rw [wrap64 (by omega) (by omega)]
      refine ⟨⟨(i + 1, out ++ [x.tag, UInt8.ofNat x.val.length] ++ x.val), by simp; omega, by simp; omega, by simp only [hl2]; omega, by simp only [hd2, ht2]; exact he⟩, by simp; omega, ?_⟩
      refine cut_ren [3] (by simp) rfl ?_ ?_
      · simp [bwd, rnS]
        omega
      · simp [bwd, List.take_append, List.take_of_length_le]
    · rw [List.drop_of_length_le (by omega), tlvE] at he
      simp
      rw [← he]
      refine fin_F 0 rfl (fin_W ?_)
      simp [encR]
      rw [List.take_of_length_le (by simp)]
      simp
end Go.Proofs.Ytlffcidcopibmaa
