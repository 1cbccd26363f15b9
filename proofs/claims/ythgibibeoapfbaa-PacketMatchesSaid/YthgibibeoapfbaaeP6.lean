/-
  Packets: the program's parse.
-/
import Derived.Test.YthgibibeoapfbaaeP5
set_option linter.unusedSimpArgs false
set_option linter.unusedVariables false
set_option linter.unusedSectionVars false
namespace Go.Proofs.Ythgibibeoapfbaa
open Go Go.Fw
attribute [local simp] bv cleanL_bv toBytes_bv ltL_bv atF_drop WS_at_bytes W_nil W_skip W_seq W_reg W_draw W_drawP W_kill W_keep W_block W_blk W_exit W_ret WX_blk WX_c WX_lp WX_li W_li W_condT W_condF W_cond WC_true WC_false
  WR_nil WR_cons WR_o1 WR_o2 o1_chk o2_chk WR_grd WG_tt WG_ff WG_tf WG_ft WG_none WS_some WS_ok1 WSr_no WSr_some WSr_ok1 WSr_at_bytes WH_some WHA_some chkF_cons chkF_nil chkE_some chkE_ok1 chkE_at evF WO_mv WO_pick WO_bin WO_isNil WO_eqA WO_un WO_convI WO_toStr WO_ofStr WO_build WO_buildF WO_load WO_nilCheck WO_fieldAddr WO_field WO_idxA WO_idxS
  WO_ixA WO_slS WO_slA WO_len WO_lenK WO_appF WO_extract WO_s2a WO_iface WO_min WO_max WO_alloc WO_box WO_buildO WO_store WO_appO WO_copy WO_makeS WO_allocA WO_makeA WO_cvt cvtF_slice WO_look lookF_map alAF mkAF WO_func bind1_v bind2_v bindH_v bindH2_v bindS_v okO_v pickO_t pickO_f
  Env.keep Env.get Env.set Env.del Env.dels Env.setO Env.opd Env.opds Env.opdO Env.parts intF aggF fillA splice cleanL AV.clean bndF fldF_one fldF_many toStrF boxF buildOF
  loadF_rptr loadF_rptrN atF_zero atF_succ blk_cons_zero blk_cons_succ loadF_p loadF_pN atB_some atBN_some retPost resL one
  okc_bool cells_bool notStr_bool okc_int cells_int notStr_int okc_str cells_str notStr_str okc_nil cells_nil notStr_nil okc_ptr cells_ptr notStr_ptr okc_rptr cells_rptr notStr_rptr okc_slice cells_slice notStr_slice 
  okc_list cells_list notStr_list okc_func cells_func notStr_func okc_nilFunc cells_nilFunc notStr_nilFunc okc_iface cells_iface notStr_iface okc_nilIface cells_nilIface notStr_nilIface okc_agg cells_agg notStr_agg 
  okc_tuple cells_tuple notStr_tuple lenF_slice lenF_list lenF_str faF_ptr faF_rptr idxSF_slice idxSF_list idxAF_ptr idxAF_rptr ixAF_many ixAF_one convF_int unF_neg unF_xor unF_not nilF_0nil nilF_0ptr nilF_0rptr nilF_1 
  nilF_2nil nilF_2f nilF_3nil nilF_3f binF_int binF_beq binF_bne binF_sadd binF_seq binF_sne sliceCells_list sliceCells_str sliceCells_slice cutC_some szAV_list szAV_str szAV_slice oneSl_list oneSl_slice slSF_sliceS 
  slSF_sliceN slSF_list slAF_rptr slAF_ptr appFF_list appOF_list appOF_sliceN appOF_sliceS storeF_ptr copyF_slice extF_tuple s2aF_slice s2aF_list nchkF_ptr nchkF_rptr nchkF_f mmF_int ofStrF_str mkSF_int eqAF_agg
attribute [local irreducible] W WX WR WO WS WSr WH WHA WG WC FSpec
attribute [local simp] lendAll
attribute [local congr] W_cg WR_cg WO_cg WS_cg WSr_cg WH_cg WHA_cg WG_cg WC_cg WX_cg
attribute [local simp] Env.has AV.wkr wkrL AV.wkr_refl wkrL_refl AV.ltI ltL leHW hasW Env.lt AV.ids idsL AV.sub subL AV.ren AV.frz frzS frzP frzE frzL Heap.frz Blk.frz Blk.ren renL rnS rnP hasR leR idsL_bv subL_bv
attribute [local simp] cleanL_take cleanL_drop ltL_take ltL_drop idsL_take idsL_drop subL_take subL_drop cleanL_append ltL_append idsL_append subL_append
attribute [local simp] renE mvN mvH
attribute [local simp] fwd backH putL bwd
attribute [local simp] u8i u8e List.idxOf_cons
attribute [local simp] hasRW leRW
attribute [local simp] WS_at_map WSr_at_map WS_at_arr WSr_at_arr loadWP splice_full Int.natCast_inj
def pkPR (r : Pkt × Int) : AV := .tuple [.agg (pkP r.1), .int .i64 r.2]
theorem z0_cellsP : pkP z0 = ([.int .u32 0, .int .u8 0, .int .u32 0, .int .u32 0, .int .u8 0, .int .u8 0, .int .u8 0, .int .u8 0, .int .u8 0, .int .u8 0, .int .u8 0, .int .u8 0, .int .u8 0, .int .u8 0, .int .u8 0, .int .u8 0, .int .u8 0, .int .u8 0, .int .u8 0, .int .u8 0, .int .u8 0, .int .u8 0, .int .u8 0, .int .u8 0, .int .u8 0, .int .u8 0, .int .u8 0, .int .u8 0, .int .u8 0, .int .u8 0, .int .u8 0, .int .u8 0, .int .u8 0, .int .u8 0, .int .u8 0, .int .u8 0, .int .u8 0, .int .u8 0, .int .u8 0, .int .u8 0, .int .u8 0, .int .u8 0, .int .u8 0, .int .u8 0, .int .u8 0, .int .u8 0, .int .u8 0, .int .u8 0, .int .u8 0, .int .u8 0, .int .u8 0, .int .u8 0, .int .u8 0, .int .u8 0, .int .u8 0, .int .u8 0, .int .u8 0, .int .u8 0, .int .u8 0, .int .u8 0, .int .u8 0, .int .u8 0, .int .u8 0, .int .u8 0, .int .u8 0, .int .u8 0, .int .u8 0, .int .u8 0, .int .u8 0, .int .u8 0, .int .u8 0, .int .u8 0, .int .u8 0, .int .u8 0, .int .u8 0, .int .u8 0, .int .u8 0, .int .u8 0, .int .u8 0, .int .u8 0, .int .u8 0, .int .u8 0, .int .u8 0, .int .u8 0, .int .u8 0, .int .u8 0, .int .u8 0, .int .u8 0, .int .u8 0, .int .u8 0, .int .u8 0, .int .u8 0, .int .u8 0, .int .u8 0, .int .u8 0, .int .u8 0, .int .u8 0, .int .u8 0, .int .u8 0, .int .u8 0] : List AV) := rfl
theorem ltL_pkP (n : Nat) (p : Pkt) : ltL n (pkP p) = true := by simp [pkP, ltL, AV.ltI]
attribute [local simp] ltL_pkP
def szs : List Nat := [4, 1, 4, 4, 32, 64]
def okI (l : List It2) (j : Nat) : Prop := ∃ x, l[j]? = some x ∧ x.tag.toNat = j + 1 ∧ x.val.length = szs.getD j 0
theorem pkI_ok (p : Pkt) (hp : p.Ok) : ∀ j < 6, okI (pkItems p ++ [⟨6, p.sig⟩]) j := by
  intro j hj
  have hh := hp.hash
  have hs := hp.sig
  obtain rfl | rfl | rfl | rfl | rfl | rfl : j = 0 ∨ j = 1 ∨ j = 2 ∨ j = 3 ∨ j = 4 ∨ j = 5 := by omega
  all_goals simp [okI, pkItems, szs, byL_len, hh, hs]
theorem fPNumber_list (l : List UInt8) (h : l.length = 4) (md : Md) : FSpec Try.prog 53 [.list 1 md (l.map bv)] [] (.int .u32 (byN l : Nat)) [] := by
  match l, h with
  | [a, b, c, d], _ => exact fPNumber_spec a b c d md
theorem fPParse_spec (b : List UInt8) (md : Md) (hb : b.length < 2 ^ 40) : FSpec Try.prog 14 [.list 1 md (b.map bv)] [] (pkPR (parsePk b)) [] := by
  have ht := fTParse_spec b md (by omega)
  refine FSpec.of_W fPParse_low (by simp) ?_
  simp only [initEnv]
  simp
  refine WC_dec (fun h => ?_) (fun h => ?_)
  · simp
    have e : parsePk b = (z0, 17) := by rw [parsePk, if_neg (fun q => by have := q.1; omega), pErr, if_pos (by omega)]
    rw [e]
    exact fin_W (by simp [pkPR, z0_cellsP])
  simp
  refine WO_callP [] rfl rfl ht (by simp [tlvR]) (by simp) ?_
  rcases hr : tlvP b 0 [] with ⟨l, e⟩
  simp [tlvR]
  refine WC_ndec (fun h0 => ?_) (fun h0 => ?_)
  · simp
    have e : parsePk b = (z0, e) := by
      rw [parsePk, if_neg (fun q => by have := isPk_items b q; rw [hr] at this; exact h0 (congrArg Prod.snd this)), pErr, if_neg (by omega), hr, if_pos h0]
    rw [e]
    exact fin_W (by simp [pkPR, z0_cellsP])
  subst h0
  simp
  have eN : (¬ isPk b) → parsePk b = (z0, 7) := fun q => by rw [parsePk, if_neg q, pErr, if_neg (by omega), hr, if_neg (by simp)]
  have eI : isPk b → l = pkItems (rd b) ++ [⟨6, (rd b).sig⟩] := fun q => by have := isPk_items b q; rw [hr] at this; exact congrArg Prod.fst this
  refine WC_ndec (fun h6 => ?_) (fun h6 => ?_)
  · simp
    rw [eN (fun q => h6 (by rw [eI q]; simp [pkItems]))]
    exact fin_W (by simp [pkPR, z0_cellsP])
  have h6 : l.length = 6 := by omega
  simp
  refine W_loop (X := { i : Nat // i ≤ 6 ∧ ∀ j < i, okI l j }) (fun i => [(2, .ptr 0 0), (4, .list 2 ⟨false, false, false⟩ (cells2 l)), (6, .list 1 ⟨false, true, false⟩ [.int .i64 4, .int .i64 1, .int .i64 4, .int .i64 4, .int .i64 32, .int .i64 64]), (29, .list 2 ⟨false, false, false⟩ (cells2 l)), (30, .int .i64 l.length), (31, .int .i64 i.1)]) (fun i => [some ⟨pkP z0, 28, true⟩]) (fun i => 6 - i.1) ⟨0, by simp⟩ retPost_le ?_ ?_
  · refine cut_w ?_
    simp [z0_cellsP]
  · rintro ⟨i, hi, hE⟩
    simp only
    simp
    refine WC_dec (fun h => ?_) (fun h => ?_)
    · obtain ⟨x, r, hd⟩ : ∃ x r, l.drop i = x :: r := ⟨l[i], l.drop (i+1), by simp⟩
      have hx : l[i]? = some x := by rw [← Nat.add_zero i, ← List.getElem?_drop, hd]; rfl
      have ha : atF [AV.int .i64 4, .int .i64 1, .int .i64 4, .int .i64 4, .int .i64 32, .int .i64 64] i = ok1 (.int .i64 (szs.getD i 0 : Nat)) := by
        obtain rfl | rfl | rfl | rfl | rfl | rfl : i = 0 ∨ i = 1 ∨ i = 2 ∨ i = 3 ∨ i = 4 ∨ i = 5 := by omega
        all_goals rfl
      have ho : okI l i ↔ x.tag.toNat = i + 1 ∧ x.val.length = szs.getD i 0 := by simp [okI, hx]
      have hf : ¬ okI l i → parsePk b = (z0, 7) := fun q => eN fun k => q (by rw [eI k]; exact pkI_ok _ (rd_ok b k.1) i (by omega))
      simp [hd, wrap64_u8]
      rw [wrap64 (n := (i : Int) + 1) (by omega) (by omega)]
      refine ⟨by omega, ?_⟩
      refine WG_ndecF (fun h1 => ?_) (fun h1 => ?_)
      · rw [hf (fun q => h1 (by have := (ho.1 q).1; omega))]
        simp [z0_cellsP]
        exact fin_W (by simp [pkPR, z0_cellsP])
      · simp [ha]
        refine ⟨by omega, ?_⟩
        refine WC_ndec (fun h2 => ?_) (fun h2 => ?_)
        · rw [hf (fun q => h2 (by simpa using (ho.1 q).2))]
          simp [z0_cellsP]
          exact fin_W (by simp [pkPR, z0_cellsP])
        · have hi1 : okI l i := ho.2 ⟨by omega, by simpa using h2⟩
          simp
          rw [wrap64 (n := (i : Int) + 1) (by omega) (by omega)]
          refine ⟨⟨i + 1, by omega, fun j hj => ?_⟩, by simp; omega, cut_w ?_⟩
          · by_cases hq : j = i
            · rw [hq]; exact hi1
            · exact hE j (by omega)
          · simp
    · have : i = 6 := by omega
      subst this
      match l, h6 with
      | [x1, x2, x3, x4, x5, x6], _ =>
        have k1 := hE 0 (by omega); have k2 := hE 1 (by omega); have k3 := hE 2 (by omega); have k4 := hE 3 (by omega); have k5 := hE 4 (by omega); have k6 := hE 5 (by omega)
        simp [okI, szs] at k1 k2 k3 k4 k5 k6
        have tg : ∀ (x : UInt8) (n : Nat) (h : n < 256), x.toNat = n → x = UInt8.ofNat n := fun x n h e => by rw [← e]; simp
        obtain ⟨p, hp, hbp, hpe⟩ := items_pk b x1 x2 x3 x4 x5 x6 hr (tg _ 1 (by omega) k1.1) (tg _ 2 (by omega) k2.1) (tg _ 3 (by omega) k3.1) (tg _ 4 (by omega) k4.1) (tg _ 5 (by omega) k5.1) (tg _ 6 (by omega) k6.1) k1.2 k2.2 k3.2 k4.2 k5.2 k6.2
        have e : parsePk b = (p, 0) := by rw [hbp, parse_pkB p hp]
        rw [e]
        obtain ⟨y, hy⟩ := List.length_eq_one_iff.1 k2.2
        simp [hy, k5.2, k6.2]
        refine WO_callP [] rfl rfl (fPNumber_list x1.val k1.2 _) (by simp) (by simp [k5.2, k6.2, hy]) ?_
        simp
        refine WO_callP [] rfl rfl (fPNumber_list x3.val k3.2 _) (by simp) (by simp [k5.2, k6.2, hy]) ?_
        simp
        refine WO_callP [] rfl rfl (fPNumber_list x4.val k4.2 _) (by simp) (by simp [k5.2, k6.2, hy]) ?_
        have eP : pkP p = .int .u32 (byN x1.val : Nat) :: bv y :: .int .u32 (byN x3.val : Nat) :: .int .u32 (byN x4.val : Nat) :: (x5.val.map bv ++ x6.val.map bv) := by rw [hpe]; simp [pkP, hy]
        simp [k5.2, k6.2, hy, List.take_of_length_le, splice_length, splice2, splice4]
        simp [z0_cellsP, splice4, k5.2, k6.2, List.take_of_length_le]
        exact fin_W (by simp [pkPR, eP])
end Go.Proofs.Ythgibibeoapfbaa
