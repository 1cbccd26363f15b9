/-
  chapter 16: requests are their bytes
-/
import Derived.Test.YtlffcidcopibmaaT35
set_option linter.unusedSimpArgs false
set_option linter.unusedVariables false
set_option linter.unusedSectionVars false
namespace Go.Proofs.Ytlffcidcopibmaa
open Go Go.Fw
attribute [local simp] bv cleanL_bv toBytes_bv ltL_bv atF_drop WS_at_bytes W_nil W_skip W_seq W_reg W_draw W_drawP W_kill W_keep W_block W_blk W_exit W_ret WX_blk WX_c WX_lp WX_li W_li W_condT W_condF W_cond WC_true WC_false
  WR_nil WR_cons WR_o1 WR_o2 o1_chk o2_chk WR_grd WG_tt WG_ff WG_tf WG_ft WG_none WS_some WS_ok1 WSr_no WSr_some WSr_ok1 WSr_at_bytes WH_some WHA_some chkF_cons chkF_nil chkE_some chkE_ok1 chkE_at evF WO_mv WO_pick WO_bin WO_isNil WO_eqA WO_un WO_convI WO_toStr WO_ofStr WO_build WO_buildF WO_load WO_nilCheck WO_fieldAddr WO_field WO_idxA WO_idxS
  WO_ixA WO_slS WO_slA WO_len WO_lenK WO_appF WO_extract WO_s2a WO_iface WO_min WO_max WO_alloc WO_box WO_buildO WO_store WO_appO WO_copy WO_makeS WO_allocA WO_makeA WO_cvt cvtF_slice WO_look lookF_map alAF mkAF WO_func bind1_v bind2_v bindH_v bindH2_v bindS_v okO_v pickO_t pickO_f
  Env.keep Env.get Env.set Env.del Env.dels Env.setO Env.opd Env.opds Env.opdO Env.parts intF aggF fillA splice cleanL AV.clean bndF fldF_one fldF_many toStrF boxF buildOF
  loadF_rptr loadF_rptrN atF_zero atF_succ blk_cons_zero blk_cons_succ loadF_p loadF_pN atB_some atBN_some retPost resL one
  okc_bool cells_bool notStr_bool okc_int cells_int notStr_int okc_str cells_str notStr_str okc_nil cells_nil notStr_nil okc_ptr cells_ptr notStr_ptr okc_rptr cells_rptr notStr_rptr okc_slice cells_slice notStr_slice 
  okc_list cells_list notStr_list okc_func cells_func notStr_func okc_nilFunc cells_nilFunc notStr_nilFunc okc_iface cells_iface notStr_iface okc_nilIface cells_nilIface notStr_nilIface okc_agg cells_agg notStr_agg 
  okc_tuple cells_tuple notStr_tuple lenF_slice lenF_list lenF_str faF_ptr faF_rptr idxSF_slice idxSF_list idxAF_ptr idxAF_rptr ixAF_many ixAF_one convF_int unF_neg unF_xor unF_not nilF_0nil nilF_0ptr nilF_0rptr nilF_1 
  nilF_2nil nilF_2f nilF_3nil nilF_3f binF_int binF_beq binF_bne binF_sadd binF_seq binF_sne sliceCells_list sliceCells_str sliceCells_slice cutC_some szAV_list szAV_str szAV_slice oneSl_list oneSl_slice slSF_sliceS 
  slSF_sliceN slSF_list slAF_rptr slAF_ptr appFF_list appOF_list appOF_sliceN appOF_sliceS storeF_ptr copyF_slice extF_tuple s2aF_slice s2aF_list nchkF_ptr nchkF_rptr nchkF_f mmF_int ofStrF_str mkSF_int eqAF_agg
attribute [local irreducible] W WX WR WO WS WSr WH WHA WG WC FSpec
attribute [local simp] lendAll
attribute [local congr] W_cg WR_cg WO_cg WS_cg WSr_cg WH_cg WHA_cg WG_cg WC_cg WX_cg
attribute [local simp] Env.has AV.wkr wkrL AV.wkr_refl wkrL_refl AV.ltI ltL leHW hasW Env.lt AV.ids idsL AV.sub subL AV.ren AV.frz frzS frzP frzE frzL Heap.frz Blk.frz Blk.ren renL rnS rnP hasR leR idsL_bv subL_bv
attribute [local simp] cleanL_take cleanL_drop ltL_take ltL_drop idsL_take idsL_drop subL_take subL_drop cleanL_append ltL_append idsL_append subL_append
attribute [local simp] renE mvN mvH
attribute [local simp] fwd backH putL bwd
attribute [local simp] u8i u8e List.idxOf_cons
attribute [local simp] hasRW leRW
theorem leB_leN : ∀ (d : List UInt8), leB d.length (leN d) = d
  | [] => rfl
  | x :: l => by
    have ih := leB_leN l
    have hx := x.toNat_lt
    simp only [leB, List.length_cons] at ih ⊢
    rw [List.range_succ_eq_map, List.map_cons, List.map_map]
    congr 1
    · simp only [leN, Nat.pow_zero, Nat.div_one]
      apply UInt8.toNat_inj.1
      rw [UInt8.toNat_ofNat']
      omega
    · refine Eq.trans ?_ ih
      apply List.map_congr_left
      intro i _
      simp only [Function.comp, leN, Nat.pow_succ, Nat.succ_eq_add_one]
      congr 1
      rw [Nat.mul_comm (256 ^ i) 256, ← Nat.div_div_eq_div_mul]
      congr 1
      omega
theorem leN_leB : ∀ (n s : Nat), leN (leB n s) = s % 256 ^ n
  | 0, s => by simp [leB, leN, Nat.mod_one]
  | n + 1, s => by
    have ih := leN_leB n (s / 256)
    have e : leB (n + 1) s = UInt8.ofNat s :: leB n (s / 256) := by
      simp only [leB, List.range_succ_eq_map, List.map_cons, List.map_map, Nat.pow_zero, Nat.div_one]
      congr 1
      apply List.map_congr_left
      intro i _
      simp only [Function.comp, Nat.pow_succ, Nat.succ_eq_add_one]
      rw [Nat.mul_comm, ← Nat.div_div_eq_div_mul]
    rw [e, leN, ih, UInt8.toNat_ofNat', show (2 : Nat) ^ 8 = 256 from rfl, Nat.pow_succ, Nat.mul_comm (256 ^ n), Nat.mod_mul]
theorem parQ_encB (r : Req16) (hs : r.size < 2 ^ 32) : parQ (encB r) = (r, 0) ↔ rOk r = true := by
  obtain ⟨o, ty, size, data⟩ := r
  simp only at hs
  by_cases hz : o = 0 ∨ o = 3 ∨ o = 4 ∨ o = 7 ∨ o = 12
  · rcases hz with rfl | rfl | rfl | rfl | rfl <;>
    (simp [rOk, encB, preB, leB, fOk, fT, fS, parQ, leN]
     constructor <;> (rintro ⟨rfl, rfl, rfl⟩; exact ⟨rfl, rfl, rfl⟩))
  have n0 : ¬ o = 0 := fun h => hz (by simp [h])
  have n3 : ¬ o = 3 := fun h => hz (by simp [h])
  have n4 : ¬ o = 4 := fun h => hz (by simp [h])
  have n7 : ¬ o = 7 := fun h => hz (by simp [h])
  have n12 : ¬ o = 12 := fun h => hz (by simp [h])
  by_cases h8 : o = 8
  · subst h8
    by_cases h1 : 64 < data.length
    · simp [rOk, encB, preB, leB, fOk, fT, fS, parQ, leN, h1]
    · by_cases h2 : data = []
      · simp [rOk, encB, preB, leB, fOk, fT, fS, parQ, leN, h2]
      · simp [rOk, encB, preB, leB, fOk, fT, fS, parQ, leN, h1, h2]
        constructor
        · rintro ⟨rfl, rfl⟩; exact ⟨rfl, rfl, by omega⟩
        · rintro ⟨rfl, rfl, _⟩; exact ⟨rfl, rfl⟩
  by_cases h69 : o = 6 ∨ o = 9
  · rcases h69 with rfl | rfl <;>
    (simp [rOk, encB, preB, leB, fOk, fT, fS, parQ, leN]
     intros; exact eq_comm)
  have n6 : ¬ o = 6 := fun h => h69 (by simp [h])
  have n9 : ¬ o = 9 := fun h => h69 (by simp [h])
  have hlb : ∀ n, (leB n size).length = n := by intro n; simp [leB]
  by_cases h1 : o = 1
  · subst h1
    have e := leN_leB 4 size
    rw [Nat.mod_eq_of_lt (by omega)] at e
    simp [rOk, encB, preB, fOk, fT, fS, parQ, hlb, e]
  by_cases h2 : o = 2
  · subst h2
    have e := leN_leB 2 size
    simp [rOk, encB, preB, fOk, fT, fS, parQ, hlb, e]
    intros; exact eq_comm
  have hk : fOk o = false := by simp [fOk, n0, h1, h2, n3, n4, n6, n7, n9, n12]
  simp [rOk, encB, preB, parQ, hk, n0, h1, h2, n3, n4, n6, n7, n9, n12, h8]
theorem encQ_eq (r : Req16) (hs : r.size < 2 ^ 32) : encQ r = if rOk r = true then (encB r, 0) else ([], 1) := by
  have h := parQ_encB r hs
  split
  · rename_i hr
    have := h.2 hr
    exact encQ_yes ⟨by rw [this], by rw [this]⟩
  · rename_i hr
    exact encQ_no (fun q => hr (h.1 (Prod.ext q.2 q.1)))
/-- What bytes are a request's, are its bytes. -/
theorem encB_parQ (b : List UInt8) (h : (parQ b).2 = 0) : encB (parQ b).1 = b ∧ parQ b = ((parQ b).1, 0) := by
  refine ⟨?_, Prod.ext rfl h⟩
  cases b with
  | nil => simp [parQ] at h
  | cons o r =>
    by_cases h8 : o = 8
    · subst h8
      simp only [parQ, if_true] at h ⊢
      split at h
      · simp at h
      · rename_i h1
        rw [if_neg h1]
        split at h
        · simp at h
        · rename_i h2
          rw [if_neg h2]
          simp [encB, preB, leB, fT, fS]
    · simp only [parQ, if_neg h8] at h ⊢
      split at h
      · simp at h
      · rename_i h1
        rw [if_neg h1]
        split at h
        · simp at h
        · rename_i h2
          rw [if_neg h2]
          split at h
          · simp at h
          · rename_i h3
            rw [if_neg h3]
            have hl : r.length = fT o + fS o := by omega
            simp only [encB, preB, if_neg h8]
            by_cases ht : 0 < fT o
            · have h1 : fT o = 1 := by unfold fT at ht ⊢; split at ht <;> simp_all
              cases r with
              | nil => simp at hl; omega
              | cons x d =>
                have hd : d.length = fS o := by simp at hl; omega
                simp [h1, ← hd, leB_leN]
            · have h1 : fT o = 0 := by omega
              have hd : r.length = fS o := by omega
              simp [h1, ← hd, leB_leN]
theorem parQ_size (b : List UInt8) : (parQ b).1.size < 2 ^ 32 := by
  cases b with
  | nil => simp [parQ, z16]
  | cons o r =>
    simp only [parQ]
    split
    · split
      · simp [z16]
      · split <;> simp [z16]
    · split
      · simp [z16]
      · split
        · simp [z16]
        · split
          · simp [z16]
          · rename_i h2 h3
            have hS : fS o ≤ 4 := by unfold fS; split <;> (try split) <;> omega
            have h := leN_lt (r.drop (fT o))
            rw [List.length_drop] at h
            have : (256 : Nat) ^ (r.length - fT o) ≤ 256 ^ 4 := Nat.pow_le_pow_right (by omega) (by omega)
            simp only
            omega
end Go.Proofs.Ytlffcidcopibmaa
