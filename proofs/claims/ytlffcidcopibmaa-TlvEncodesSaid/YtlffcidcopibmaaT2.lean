/-
  chapter 11
-/
import Derived.Test.YtlffcidcopibmaaT1
set_option linter.unusedSimpArgs false
set_option linter.unusedVariables false
set_option linter.unusedSectionVars false
namespace Go.Proofs.Ytlffcidcopibmaa
open Go Go.Fw
attribute [local simp] bv cleanL_bv toBytes_bv ltL_bv atF_drop WS_at_bytes W_nil W_skip W_seq W_reg W_draw W_kill W_keep W_block W_blk W_exit W_ret WX_blk WX_c WX_lp WX_li W_li W_condT W_condF W_cond WC_true WC_false
  WR_nil WR_cons WR_o1 WR_o2 o1_chk o2_chk WR_grd WG_tt WG_ff WG_tf WG_ft WG_none WS_some WS_ok1 WSr_no WSr_some WSr_ok1 WSr_at_bytes WH_some chkF_cons chkF_nil chkE_some chkE_ok1 chkE_at evF WO_mv WO_pick WO_bin WO_isNil WO_eqA WO_un WO_convI WO_toStr WO_ofStr WO_build WO_buildF WO_load WO_nilCheck WO_fieldAddr WO_field WO_idxA WO_idxS
  WO_ixA WO_slS WO_slA WO_len WO_lenK WO_appF WO_extract WO_s2a WO_iface WO_min WO_max WO_alloc WO_box WO_buildO WO_store WO_appO WO_copy WO_makeS WO_func bind1_v bind2_v bindH_v bindH2_v bindS_v okO_v pickO_t pickO_f
  Env.keep Env.get Env.set Env.del Env.dels Env.setO Env.opd Env.opds Env.opdO Env.parts intF aggF fillA splice cleanL AV.clean bndF fldF_one fldF_many toStrF boxF buildOF
  loadF_rptr loadF_rptrN atF_zero atF_succ blk_cons_zero blk_cons_succ loadF_p loadF_pN atB_some atBN_some retPost resL one
  okc_bool cells_bool notStr_bool okc_int cells_int notStr_int okc_str cells_str notStr_str okc_nil cells_nil notStr_nil okc_ptr cells_ptr notStr_ptr okc_rptr cells_rptr notStr_rptr okc_slice cells_slice notStr_slice 
  okc_list cells_list notStr_list okc_func cells_func notStr_func okc_nilFunc cells_nilFunc notStr_nilFunc okc_iface cells_iface notStr_iface okc_nilIface cells_nilIface notStr_nilIface okc_agg cells_agg notStr_agg 
  okc_tuple cells_tuple notStr_tuple lenF_slice lenF_list lenF_str faF_ptr faF_rptr idxSF_slice idxSF_list idxAF_ptr idxAF_rptr ixAF_many ixAF_one convF_int unF_neg unF_xor unF_not nilF_0nil nilF_0ptr nilF_0rptr nilF_1 
  nilF_2nil nilF_2f nilF_3nil nilF_3f binF_int binF_beq binF_bne binF_sadd binF_seq binF_sne sliceCells_list sliceCells_str sliceCells_slice cutC_some szAV_list szAV_str szAV_slice oneSl_list oneSl_slice slSF_sliceS 
  slSF_sliceN slSF_list slAF_rptr slAF_ptr appFF_list appOF_list appOF_sliceN appOF_sliceS storeF_ptr copyF_slice extF_tuple s2aF_slice s2aF_list nchkF_ptr nchkF_rptr nchkF_f mmF_int ofStrF_str mkSF_int eqAF_agg
attribute [local irreducible] W WX WR WO WS WSr WH WG WC FSpec
attribute [local simp] lendAll
attribute [local congr] W_cg WR_cg WO_cg WS_cg WSr_cg WH_cg WG_cg WC_cg WX_cg
attribute [local simp] Env.has AV.wkr wkrL AV.wkr_refl wkrL_refl AV.ltI ltL leHW hasW Env.lt AV.ids idsL AV.sub subL AV.ren AV.frz frzS frzP frzE frzL Heap.frz Blk.frz Blk.ren renL rnS rnP hasR leR idsL_bv subL_bv
attribute [local simp] cleanL_take cleanL_drop ltL_take ltL_drop idsL_take idsL_drop subL_take subL_drop cleanL_append ltL_append idsL_append subL_append
/-- The items; the error's number. -/
def tlvP (b : List UInt8) (last : UInt8) (out : List It2) : List It2 × Int :=
  match b with
  | [] => (out, 0)
  | [_] => ([], 18)
  | t :: n :: r => if t ≤ last then ([], 7) else if 200 < n.toNat ∨ out.length = 16 then ([], 17) else if r.length < n.toNat then ([], 18) else
      tlvP (r.drop n.toNat) t (out ++ [⟨t, r.take n.toNat⟩])
  termination_by b.length
  decreasing_by simp; omega
def tlvR (r : List It2 × Int) : AV := .tuple [.list 2 ⟨false, false, false⟩ (cells2 r.1), .int .i64 r.2]
theorem fParse_spec (b : List UInt8) (md : Md) (hb : b.length < 2^62) : FSpec Try.prog 12 [.list 1 md (b.map bv)] [] (tlvR (tlvP b 0 [])) [] := by
  refine FSpec.of_W fParse_low (by simp) ?_
  simp only [initEnv]
  simp
  refine W_loop (X := { s : List UInt8 × Md × UInt8 × List It2 // s.1.length < 2^62 ∧ s.2.2.2.length ≤ 16 ∧ tlvP s.1 s.2.2.1 s.2.2.2 = tlvP b 0 [] })
    (fun s => [(0, .list 1 s.1.2.1 (s.1.1.map bv)), (4, .slice 2 0 0 s.1.2.2.2.length none), (5, .int .i64 s.1.2.2.1.toNat)]) (fun s => [some ⟨cells2 s.1.2.2.2, 39, false⟩]) (fun s => s.1.1.length) ⟨(b, md, 0, []), hb, by simp, rfl⟩ retPost_le ?_ ?_
  · refine cut_trans (cut_ghost 4 2 39 (by simp) rfl rfl) (cut_w ?_)
    simp [cells2]
  · rintro ⟨⟨c, md, last, out⟩, hc, ho, he⟩
    simp only at hc ho he ⊢
    rcases c with _ | ⟨t, _ | ⟨n, r⟩⟩
    · simp
      rw [tlvP] at he
      rw [← he]
      refine fin_F 0 rfl (fin_W ?_)
      simp [tlvR]
      rw [List.take_of_length_le (by simp)]; simp
    · simp
      rw [tlvP] at he
      rw [← he]
      refine fin_W ?_
      simp [tlvR, cells2]
    · rw [tlvP] at he
      simp at hc
      have er : ∀ {n : Int}, ([], n) = tlvP b 0 [] → fin 0 (tlvR (tlvP b 0 [])) [] (.tuple [.list 1 ⟨true, true, false⟩ [], .int .i64 n]) [some ⟨cells2 out, 39, false⟩] := fun q => by
        rw [← q]; refine fin_W ?_; simp [tlvR, cells2]
      simp [wrap64_u8]
      refine WC_dec (fun h => ?_) (fun h => ?_)
      rotate_left
      · exfalso; omega
      simp [wrap64_u8]
      refine WC_dec (fun h => ?_) (fun h => ?_)
      · exfalso; omega
      simp [wrap64_u8]
      refine WC_dec (fun h => ?_) (fun h => ?_)
      · simp
        rw [if_pos (UInt8.le_iff_toNat_le.2 (by omega))] at he
        exact er he
      · have h' : ¬ t ≤ last := fun q => h (by have := UInt8.le_iff_toNat_le.1 q; omega)
        rw [if_neg h'] at he
        simp
        refine WG_decF (fun hn => ?_) (fun hn => ?_)
        · rw [if_pos (.inl (by omega))] at he
          simp
          exact er he
        · simp
          refine WC_dec (fun h6 => ?_) (fun h6 => ?_)
          · rw [if_pos (.inr (by omega))] at he
            simp
            exact er he
          · rw [if_neg (by omega)] at he
            simp
            rw [wrap64 (by omega) (by omega)]
            refine WC_dec (fun hr => ?_) (fun hr => ?_)
            · rw [if_pos (by omega)] at he
              simp
              exact er he
            · rw [if_neg (by omega)] at he
              simp
              rw [wrap64 (by omega) (by omega)]
              have hm : (2 + (n.toNat : Int)).toNat = 2 + n.toNat := by omega
              have e1 : List.take (out.length * 2) (cells2 out) = cells2 out := List.take_of_length_le (by simp)
              have e2 : List.drop (2 + n.toNat) (AV.int IntKind.u8 ↑t.toNat :: AV.int IntKind.u8 ↑n.toNat :: List.map bv r) = List.drop n.toNat (r.map bv) := by
                rw [show 2 + n.toNat = n.toNat + 1 + 1 by omega, List.drop_succ_cons, List.drop_succ_cons]
              simp [hm, show 2 + n.toNat - 2 = n.toNat by omega, e1]
              refine ⟨by omega, by omega, by omega, by omega, ⟨(r.drop n.toNat, ⟨md.nl, md.full, md.bw⟩, t, out ++ [⟨t, r.take n.toNat⟩]), by simp; omega, by simp; omega, he⟩, by simp; omega, ?_⟩
              refine cut_ren [1] (by simp) rfl ?_ ?_
              · simp [e2, bwd, rnS]
                rw [List.take_of_length_le (by simp; omega)]
              · simp [cells2_append, It2.cells, bwd]
end Go.Proofs.Ytlffcidcopibmaa
