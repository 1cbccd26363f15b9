/-
  Packets: the document's parse.
-/
import Derived.Test.YthgibibeoapfbaaeP4
set_option linter.unusedSimpArgs false
set_option linter.unusedVariables false
set_option linter.unusedSectionVars false
namespace Go.Proofs.Ythgibibeoapfbaa
open Go Go.Fw
attribute [local simp] bv cleanL_bv toBytes_bv ltL_bv atF_drop WS_at_bytes W_nil W_skip W_seq W_reg W_draw W_drawP W_kill W_keep W_block W_blk W_exit W_ret WX_blk WX_c WX_lp WX_li W_li W_condT W_condF W_cond WC_true WC_false
  WR_nil WR_cons WR_o1 WR_o2 o1_chk o2_chk WR_grd WG_tt WG_ff WG_tf WG_ft WG_none WS_some WS_ok1 WSr_no WSr_some WSr_ok1 WSr_at_bytes WH_some WHA_some chkF_cons chkF_nil chkE_some chkE_ok1 chkE_at evF WO_mv WO_pick WO_bin WO_isNil WO_eqA WO_un WO_convI WO_toStr WO_ofStr WO_build WO_buildF WO_load WO_nilCheck WO_fieldAddr WO_field WO_idxA WO_idxS
  WO_ixA WO_slS WO_slA WO_len WO_lenK WO_appF WO_extract WO_s2a WO_iface WO_min WO_max WO_alloc WO_box WO_buildO WO_store WO_appO WO_copy WO_makeS WO_allocA WO_makeA WO_cvt cvtF_slice WO_look lookF_map alAF mkAF WO_func bind1_v bind2_v bindH_v bindH2_v bindS_v okO_v pickO_t pickO_f
  Env.keep Env.get Env.set Env.del Env.dels Env.setO Env.opd Env.opds Env.opdO Env.parts intF aggF fillA splice cleanL AV.clean bndF fldF_one fldF_many toStrF boxF buildOF
  loadF_rptr loadF_rptrN atF_zero atF_succ blk_cons_zero blk_cons_succ loadF_p loadF_pN atB_some atBN_some retPost resL one
  okc_bool cells_bool notStr_bool okc_int cells_int notStr_int okc_str cells_str notStr_str okc_nil cells_nil notStr_nil okc_ptr cells_ptr notStr_ptr okc_rptr cells_rptr notStr_rptr okc_slice cells_slice notStr_slice 
  okc_list cells_list notStr_list okc_func cells_func notStr_func okc_nilFunc cells_nilFunc notStr_nilFunc okc_iface cells_iface notStr_iface okc_nilIface cells_nilIface notStr_nilIface okc_agg cells_agg notStr_agg 
  okc_tuple cells_tuple notStr_tuple lenF_slice lenF_list lenF_str faF_ptr faF_rptr idxSF_slice idxSF_list idxAF_ptr idxAF_rptr ixAF_many ixAF_one convF_int unF_neg unF_xor unF_not nilF_0nil nilF_0ptr nilF_0rptr nilF_1 
  nilF_2nil nilF_2f nilF_3nil nilF_3f binF_int binF_beq binF_bne binF_sadd binF_seq binF_sne sliceCells_list sliceCells_str sliceCells_slice cutC_some szAV_list szAV_str szAV_slice oneSl_list oneSl_slice slSF_sliceS 
  slSF_sliceN slSF_list slAF_rptr slAF_ptr appFF_list appOF_list appOF_sliceN appOF_sliceS storeF_ptr copyF_slice extF_tuple s2aF_slice s2aF_list nchkF_ptr nchkF_rptr nchkF_f mmF_int ofStrF_str mkSF_int eqAF_agg
attribute [local irreducible] W WX WR WO WS WSr WH WHA WG WC FSpec
attribute [local simp] lendAll
attribute [local congr] W_cg WR_cg WO_cg WS_cg WSr_cg WH_cg WHA_cg WG_cg WC_cg WX_cg
attribute [local simp] Env.has AV.wkr wkrL AV.wkr_refl wkrL_refl AV.ltI ltL leHW hasW Env.lt AV.ids idsL AV.sub subL AV.ren AV.frz frzS frzP frzE frzL Heap.frz Blk.frz Blk.ren renL rnS rnP hasR leR idsL_bv subL_bv
attribute [local simp] cleanL_take cleanL_drop ltL_take ltL_drop idsL_take idsL_drop subL_take subL_drop cleanL_append ltL_append idsL_append subL_append
attribute [local simp] renE mvN mvH
attribute [local simp] fwd backH putL bwd
attribute [local simp] u8i u8e List.idxOf_cons
attribute [local simp] hasRW leRW
attribute [local simp] WS_at_map WSr_at_map WS_at_arr WSr_at_arr loadWP splice_full Int.natCast_inj
def pkRR (r : Pkt × Int) : AV := .tuple [.agg (pkR r.1), .int .i64 r.2]
theorem fPRNumber_list (l : List UInt8) (h : l.length = 4) (md : Md) : FSpec Try.prog 57 [.list 1 md (l.map bv)] [] (.int .u32 (byN l : Nat)) [] := by
  match l, h with
  | [a, b, c, d], _ => exact fPRNumber_spec a b c d md
theorem fPRNumber_at (b : List UInt8) (k : Nat) (h : k + 4 ≤ b.length) (md : Md) : FSpec Try.prog 57 [.list 1 md (((b.map bv).drop k).take 4)] [] (.int .u32 (byN ((b.drop k).take 4) : Nat)) [] := by
  have := fPRNumber_list ((b.drop k).take 4) (by simp; omega) md
  rwa [List.map_take, List.map_drop] at this
def rdG (b : List UInt8) (j : Nat) : Nat := (b.getD (if j < 32 then 23 + j else 25 + j) 0).toNat
def rdH (b : List UInt8) (g : Nat → Nat) : List AV := .int .u32 (byN ((b.drop 2).take 4) : Nat) :: .int .u32 (byN ((b.drop 11).take 4) : Nat) :: .int .u32 (byN ((b.drop 17).take 4) : Nat) :: bv (b.getD 8 0) :: arr .u8 96 g
theorem ltL_pkR (n : Nat) (p : Pkt) : ltL n (pkR p) = true := by simp [pkR, ltL, AV.ltI]
theorem ltL_rdH (n : Nat) (b : List UInt8) (g : Nat → Nat) : ltL n (rdH b g) = true := by simp [rdH, ltL, AV.ltI]
attribute [local simp] ltL_pkR ltL_rdH
theorem rdH_set (b : List UInt8) (g : Nat → Nat) (i v : Nat) : (rdH b g).set (4 + i) (.int .u8 (v : Nat)) = rdH b (upd g i v) := by
  simp [rdH, show 4 + i = i + 1 + 1 + 1 + 1 by omega, arr_set]
theorem rdH_rd (b : List UInt8) (h : b.length = 121) : rdH b (fill 96 (rdG b)) = pkR (rd b) := by
  have : arr .u8 96 (fill 96 (rdG b)) = (((b.drop 23).take 32) ++ ((b.drop 57).take 64)).map bv := by
    rw [bytes_arr _ (m := 96) (by simp [h])]
    refine arr_ext fun k hk => ?_
    simp only [fill, hk, if_true, rdG, List.getD_eq_getElem?_getD, List.getElem?_append]
    split
    · rename_i h3; rw [if_pos (by simp [h]; omega)]; have hx : b[23 + k]? = some b[23 + k] := List.getElem?_eq_getElem (by omega); simp [List.getElem?_take, h3, hx]
    · rw [if_neg (by simp [h]; omega)]; have hx : b[25 + k]? = some b[25 + k] := List.getElem?_eq_getElem (by omega); simp [List.getElem?_take, h, show 57 + (k - 32) = 25 + k by omega, show k - 32 < 64 by omega, hx]
  rw [rdH, this]; simp [pkR, rd]
theorem z0_cells : pkR z0 = ([.int .u32 0, .int .u32 0, .int .u32 0, .int .u8 0, .int .u8 0, .int .u8 0, .int .u8 0, .int .u8 0, .int .u8 0, .int .u8 0, .int .u8 0, .int .u8 0, .int .u8 0, .int .u8 0, .int .u8 0, .int .u8 0, .int .u8 0, .int .u8 0, .int .u8 0, .int .u8 0, .int .u8 0, .int .u8 0, .int .u8 0, .int .u8 0, .int .u8 0, .int .u8 0, .int .u8 0, .int .u8 0, .int .u8 0, .int .u8 0, .int .u8 0, .int .u8 0, .int .u8 0, .int .u8 0, .int .u8 0, .int .u8 0, .int .u8 0, .int .u8 0, .int .u8 0, .int .u8 0, .int .u8 0, .int .u8 0, .int .u8 0, .int .u8 0, .int .u8 0, .int .u8 0, .int .u8 0, .int .u8 0, .int .u8 0, .int .u8 0, .int .u8 0, .int .u8 0, .int .u8 0, .int .u8 0, .int .u8 0, .int .u8 0, .int .u8 0, .int .u8 0, .int .u8 0, .int .u8 0, .int .u8 0, .int .u8 0, .int .u8 0, .int .u8 0, .int .u8 0, .int .u8 0, .int .u8 0, .int .u8 0, .int .u8 0, .int .u8 0, .int .u8 0, .int .u8 0, .int .u8 0, .int .u8 0, .int .u8 0, .int .u8 0, .int .u8 0, .int .u8 0, .int .u8 0, .int .u8 0, .int .u8 0, .int .u8 0, .int .u8 0, .int .u8 0, .int .u8 0, .int .u8 0, .int .u8 0, .int .u8 0, .int .u8 0, .int .u8 0, .int .u8 0, .int .u8 0, .int .u8 0, .int .u8 0, .int .u8 0, .int .u8 0, .int .u8 0, .int .u8 0, .int .u8 0, .int .u8 0] : List AV) := rfl
theorem fPRParse_spec (b : List UInt8) (md : Md) (hb : b.length < 2 ^ 40) : FSpec Try.prog 19 [.list 1 md (b.map bv)] [] (pkRR (parsePk b)) [] := by
  have ht := fTRParse_spec b md (by omega)
  have hz : pkR z0 = (AV.int .u32 0 :: .int .u32 0 :: .int .u32 0 :: List.replicate 97 (AV.int .u8 0)) := rfl
  refine FSpec.of_W fPRParse_low (by simp) ?_
  simp only [initEnv]
  simp
  refine WC_dec (fun h => ?_) (fun h => ?_)
  · simp
    have e : parsePk b = (z0, 17) := by rw [parsePk, if_neg (fun q => by have := q.1; omega), pErr, if_pos (by omega)]
    rw [e]
    refine fin_W ?_
    simp [pkRR, hz]
  simp
  refine WO_callP [] rfl rfl ht (by simp [tlvR]) (by simp) ?_
  rcases hr : tlvP b 0 [] with ⟨l, e⟩
  simp [tlvR]
  refine WC_ndec (fun h0 => ?_) (fun h0 => ?_)
  · simp
    have e : parsePk b = (z0, e) := by
      rw [parsePk, if_neg (fun q => by have := isPk_items b q; rw [hr] at this; exact h0 (congrArg Prod.snd this)), pErr, if_neg (by omega), hr, if_pos h0]
    rw [e]
    refine fin_W ?_
    simp [pkRR, hz]
  subst h0
  simp
  refine WC_ndec (fun hl => ?_) (fun hl => ?_)
  · simp
    have e : parsePk b = (z0, 7) := by
      rw [parsePk, if_neg (fun q => by have := q.1; omega), pErr, if_neg (by omega), hr, if_neg (by simp)]
    rw [e]
    refine fin_W ?_
    simp [pkRR, hz]
  have hl : b.length = 121 := by omega
  have b8 : b[8]? = some (b.getD 8 0) := by simp [hl]
  simp [hl]
  refine WO_callP [] rfl rfl (fPRNumber_at b 2 (by omega) _) (by simp) (by simp) ?_
  simp [hl, b8]
  refine WO_callP [] rfl rfl (fPRNumber_at b 11 (by omega) _) (by simp) (by simp) ?_
  simp [hl]
  refine WO_callP [] rfl rfl (fPRNumber_at b 17 (by omega) _) (by simp) (by simp) ?_
  simp [hl]
  have hzr : List.replicate 96 (AV.int .u8 0) = arr .u8 96 (fill 0 (rdG b)) := by rw [fill_zero]; exact arr_replicate .u8 96 0
  refine W_loop (X := { i : Nat // i ≤ 32 }) (fun i => [(0, .list 1 md (b.map bv)), (2, .ptr 0 0), (4, .ptr 1 0), (7, .int .i64 i.1)]) (fun i => [some ⟨pkR z0, 37, true⟩, some ⟨rdH b (fill i.1 (rdG b)), 37, true⟩]) (fun i => 32 - i.1) ⟨0, by simp⟩ retPost_le ?_ ?_
  · refine cut_w ?_
    simp [rdH, ← hzr, hz, hl]
  · rintro ⟨i, hi⟩
    simp only
    simp
    refine WC_dec (fun h => ?_) (fun h => ?_)
    · simp
      rw [wrap64 (n := 23 + (i : Int)) (by omega) (by omega), wrap64 (n := (i : Int) + 1) (by omega) (by omega), show (23 + (i : Int)).toNat = 23 + i by omega]
      have hg : (b[23 + i]?.getD default).toNat = rdG b i := by
        have hx : b[23 + i]? = some b[23 + i] := List.getElem?_eq_getElem (by omega)
        simp [rdG, show i < 32 by omega, hx]
      rw [hg, rdH_set, upd_fill]
      refine ⟨by omega, by omega, h, by simp [rdH]; omega, ⟨i + 1, by omega⟩, by simp; omega, cut_w ?_⟩
      simp
    · have : i = 32 := by omega
      subst this
      simp
      refine W_loop (X := { i : Nat // i ≤ 64 }) (fun i => [(0, .list 1 md (b.map bv)), (2, .ptr 0 0), (4, .ptr 1 0), (8, .int .i64 i.1)]) (fun i => [some ⟨pkR z0, 37, true⟩, some ⟨rdH b (fill (32 + i.1) (rdG b)), 37, true⟩]) (fun i => 64 - i.1) ⟨0, by simp⟩ retPost_le ?_ ?_
      · refine cut_w ?_
        simp
      · rintro ⟨i, hi⟩
        simp only
        simp
        refine WC_dec (fun h => ?_) (fun h => ?_)
        · simp
          rw [wrap64 (n := 57 + (i : Int)) (by omega) (by omega), wrap64 (n := (i : Int) + 1) (by omega) (by omega), show (57 + (i : Int)).toNat = 57 + i by omega]
          have hg : (b[57 + i]?.getD default).toNat = rdG b (32 + i) := by
            have hx : b[57 + i]? = some b[57 + i] := List.getElem?_eq_getElem (by omega)
            simp [rdG, show 25 + (32 + i) = 57 + i by omega, hx, show ¬ 32 + i < 32 by omega]
          rw [hg, show 36 + i = 4 + (32 + i) by omega, rdH_set, upd_fill]
          refine ⟨by omega, by omega, h, by simp [rdH]; omega, ⟨i + 1, by omega⟩, by simp; omega, cut_w ?_⟩
          simp [Nat.add_assoc]
        · have : i = 64 := by omega
          subst this
          simp [rdH_rd b hl, pkR_load (rd b) (rd_ok b hl)]
          refine WO_callP [] rfl rfl (fPREncode_spec (rd b) (rd_ok b hl)) (by simp [pkR_load (rd b) (rd_ok b hl)]) (by simp) ?_
          simp
          have hq := pkB_len (rd b) (rd_ok b hl)
          refine W_loop (X := { i : Nat // i ≤ 121 ∧ b.take i = (pkB (rd b)).take i }) (fun i => [(0, .list 1 md (b.map bv)), (2, .ptr 0 0), (4, .ptr 1 0), (9, .list 1 ⟨false, false, false⟩ ((pkB (rd b)).map bv)), (10, .int .i64 i.1)]) (fun i => [some ⟨pkR z0, 37, true⟩, some ⟨pkR (rd b), 37, true⟩]) (fun i => 121 - i.1) ⟨0, by simp⟩ retPost_le ?_ ?_
          · refine cut_w ?_
            simp
          · rintro ⟨i, hi, hE⟩
            simp only
            simp
            refine WC_dec (fun h => ?_) (fun h => ?_)
            · have hx : b[i]? = some b[i] := List.getElem?_eq_getElem (by omega)
              have hy : (pkB (rd b))[i]? = some (pkB (rd b))[i] := List.getElem?_eq_getElem (by omega)
              simp [hx, hy]
              refine ⟨by omega, by omega, ?_⟩
              refine WC_ndec (fun hne => ?_) (fun heq => ?_)
              · have e : parsePk b = (z0, 7) := by
                  rw [parsePk, if_neg (fun q => hne (by have h5 := congrArg (fun l => l[i]?) q.2; simp only [hx, hy] at h5; exact (congrArg UInt8.toNat (Option.some.inj h5)).symm)), pErr, if_neg (by omega), hr, if_neg (by simp)]
                rw [e]
                simp [z0_cells]
                exact fin_W (by simp [pkRR, z0_cells])
              · simp
                rw [wrap64 (by omega) (by omega)]
                have heq : b[i] = (pkB (rd b))[i] := UInt8.toNat_inj.1 heq
                refine ⟨⟨i + 1, by omega, by rw [List.take_add_one, List.take_add_one, hE, hx, hy, heq]⟩, by simp; omega, cut_w ?_⟩
                simp
            · have : i = 121 := by omega
              subst this
              rw [List.take_of_length_le (by omega), List.take_of_length_le (by omega)] at hE
              have e : parsePk b = (rd b, 0) := by rw [parsePk, if_pos ⟨hl, hE.symm⟩]
              have eS : splice (pkR z0) 0 (pkR (rd b)) = pkR (rd b) := splice_full (by rw [(pkR_load _ z0_ok).1, (pkR_load _ (rd_ok b hl)).1])
              simp [pkR_load (rd b) (rd_ok b hl), pkR_load z0 z0_ok, eS]
              rw [e]
              refine fin_W ?_
              simp [pkRR]
end Go.Proofs.Ythgibibeoapfbaa
