/-
  Digests of sixty-four bits a word: what they are.
-/
import Derived.Test.YthgibibeoapfbaaeG3
set_option linter.unusedSimpArgs false
set_option linter.unnecessarySimpa false
set_option linter.unusedVariables false
set_option linter.unusedSectionVars false
namespace Go.Proofs.Ythgibibeoapfbaa
open Go Go.Fw
attribute [local simp] bv cleanL_bv toBytes_bv ltL_bv atF_drop WS_at_bytes W_nil W_skip W_seq W_reg W_draw W_drawP W_kill W_keep W_block W_blk W_exit W_ret WX_blk WX_c WX_lp WX_li W_li W_condT W_condF W_cond WC_true WC_false
  WR_nil WR_cons WR_o1 WR_o2 o1_chk o2_chk WR_grd WG_tt WG_ff WG_tf WG_ft WG_none WS_some WS_ok1 WSr_no WSr_some WSr_ok1 WSr_at_bytes WH_some WHA_some chkF_cons chkF_nil chkE_some chkE_ok1 chkE_at evF WO_mv WO_pick WO_bin WO_isNil WO_eqA WO_un WO_convI WO_toStr WO_ofStr WO_build WO_buildF WO_load WO_nilCheck WO_fieldAddr WO_field WO_idxA WO_idxS
  WO_ixA WO_slS WO_slA WO_len WO_lenK WO_appF WO_extract WO_s2a WO_iface WO_min WO_max WO_alloc WO_box WO_buildO WO_store WO_appO WO_copy WO_makeS WO_allocA WO_makeA WO_cvt cvtF_slice WO_look lookF_map alAF mkAF WO_func bind1_v bind2_v bindH_v bindH2_v bindS_v okO_v pickO_t pickO_f
  Env.keep Env.get Env.set Env.del Env.dels Env.setO Env.opd Env.opds Env.opdO Env.parts intF aggF fillA splice cleanL AV.clean bndF fldF_one fldF_many toStrF boxF buildOF
  loadF_rptr loadF_rptrN atF_zero atF_succ blk_cons_zero blk_cons_succ loadF_p loadF_pN atB_some atBN_some retPost resL one
  okc_bool cells_bool notStr_bool okc_int cells_int notStr_int okc_str cells_str notStr_str okc_nil cells_nil notStr_nil okc_ptr cells_ptr notStr_ptr okc_rptr cells_rptr notStr_rptr okc_slice cells_slice notStr_slice 
  okc_list cells_list notStr_list okc_func cells_func notStr_func okc_nilFunc cells_nilFunc notStr_nilFunc okc_iface cells_iface notStr_iface okc_nilIface cells_nilIface notStr_nilIface okc_agg cells_agg notStr_agg 
  okc_tuple cells_tuple notStr_tuple lenF_slice lenF_list lenF_str faF_ptr faF_rptr idxSF_slice idxSF_list idxAF_ptr idxAF_rptr ixAF_many ixAF_one convF_int unF_neg unF_xor unF_not nilF_0nil nilF_0ptr nilF_0rptr nilF_1 
  nilF_2nil nilF_2f nilF_3nil nilF_3f binF_int binF_beq binF_bne binF_sadd binF_seq binF_sne sliceCells_list sliceCells_str sliceCells_slice cutC_some szAV_list szAV_str szAV_slice oneSl_list oneSl_slice slSF_sliceS 
  slSF_sliceN slSF_list slAF_rptr slAF_ptr appFF_list appOF_list appOF_sliceN appOF_sliceS storeF_ptr copyF_slice extF_tuple s2aF_slice s2aF_list nchkF_ptr nchkF_rptr nchkF_f mmF_int ofStrF_str mkSF_int eqAF_agg
attribute [local irreducible] W WX WR WO WS WSr WH WHA WG WC FSpec
attribute [local simp] lendAll
attribute [local congr] W_cg WR_cg WO_cg WS_cg WSr_cg WH_cg WHA_cg WG_cg WC_cg WX_cg
attribute [local simp] Env.has AV.wkr wkrL AV.wkr_refl wkrL_refl AV.ltI ltL leHW hasW Env.lt AV.ids idsL AV.sub subL AV.ren AV.frz frzS frzP frzE frzL Heap.frz Blk.frz Blk.ren renL rnS rnP hasR leR idsL_bv subL_bv
attribute [local simp] cleanL_take cleanL_drop ltL_take ltL_drop idsL_take idsL_drop subL_take subL_drop cleanL_append ltL_append idsL_append subL_append
attribute [local simp] renE mvN mvH
attribute [local simp] fwd backH putL bwd
attribute [local simp] u8i u8e List.idxOf_cons
attribute [local simp] hasRW leRW
attribute [local simp] WS_at_map WSr_at_map WS_at_arr WSr_at_arr loadWP splice_full Int.natCast_inj arr_set arr_take arr_zero64 upd_fill fill_zero
theorem fGSum_spec (st pre : List UInt8) (hn : st.length < 2 ^ 46) : FSpec Try.prog 130 [.ptr 0 0] [hsh F64 .u64 184 1 st pre st.length, dat 64 5 st pre] (.agg ((dgst F64 st).map bv)) [hsh F64 .u64 184 1 st pre st.length, dat 64 5 st pre] := by
  have hrl : (rst 64 st).length = st.length % 128 := rst_len st
  refine FSpec.of_W fGSum_low (by simp) ?_
  simp only [initEnv]
  simp [hsh, dat, hC, List.take_of_length_le]
  refine ⟨by omega, ?_⟩
  obtain ⟨r, hr⟩ : ∃ r, r = (rst 64 st).length := ⟨_, rfl⟩
  have hr64 : r < 128 := by omega
  refine W_loop (X := { j : Nat // j ≤ zN 128 112 r }) (fun j => [(0, .ptr 0 0), (2, .ptr 2 0), (3, .ptr 4 0), (4, .slice 1 5 0 (j.1 + 1) none)])
    (fun j => [hsh F64 .u64 184 1 st pre st.length, dat 64 5 st pre, some ⟨arr .u8 64 fun _ => 0, 150, true⟩, some ⟨(rst 64 st).map bv, 5, false⟩, some ⟨hC .u64 (hst F64 st) 3 0 r 0, 184, true⟩, some ⟨(128 :: List.replicate j.1 0 : List UInt8).map bv, 5, false⟩]) (fun j => zN 128 112 r - j.1) ⟨0, by omega⟩ retPost_le ?_ ?_
  · exact cut_w (by simp [hsh, dat, hC, hr])
  rintro ⟨j, hj⟩
  have hz := zN_lt 128 112 r (by decide)
  have hzj := zN_128 r j hr64 hj
  obtain ⟨w, hw⟩ : ∃ w, w = r + (1 + j) := ⟨_, rfl⟩
  obtain ⟨v, hv⟩ : ∃ v, v = w % 128 := ⟨_, rfl⟩
  have e1 : IntKind.i64.wrap ((r : Int) + ((j : Int) + 1)) = (w : Int) := by rw [wrap64s (by omega) (by omega)]; omega
  have e2 : (w : Int).tmod 128 = (v : Int) := by rw [hv]; rfl
  rw [← hw, ← hv] at hzj
  simp only
  simp [hsh, dat, hC, ← hr, e1, e2]
  refine WC_ndec (fun h => ?_) (fun h => ?_)
  · have hjl : j < zN 128 112 r := by omega
    simp
    refine ⟨by omega, ⟨j + 1, by omega⟩, by simp; omega, ?_⟩
    refine cut_rw [0, 1, 2, 3, 4, 6] (by simp) rfl (by simp) ?_
    simp [List.take_of_length_le, List.replicate_succ']
  · have hjz : j = zN 128 112 r := hzj.1 (by omega)
    subst hjz
    obtain ⟨TL, hTL⟩ : ∃ TL, TL = (128 :: List.replicate (zN 128 112 r) 0 ++ List.replicate 8 0 : List UInt8) := ⟨_, rfl⟩
    have hTl : TL.length = zN 128 112 r + 9 := by rw [hTL]; simp
    simp [List.take_of_length_le]
    refine ⟨by omega, ?_⟩
    refine W_loop (X := { i : Nat // i ≤ 8 }) (fun i => [(0, .ptr 0 0), (2, .ptr 2 0), (3, .ptr 4 0), (4, .slice 1 5 0 (TL.length + i.1) none), (41, .int .i64 i.1)])
      (fun i => [hsh F64 .u64 184 1 st pre st.length, dat 64 5 st pre, some ⟨arr .u8 64 fun _ => 0, 150, true⟩, some ⟨(rst 64 st).map bv, 5, false⟩, some ⟨hC .u64 (hst F64 st) 3 0 r 0, 184, true⟩, some ⟨(TL ++ beP (8 * st.length) i.1).map bv, 5, false⟩]) (fun i => 8 - i.1) ⟨0, by omega⟩ retPost_le ?_ ?_
    · refine cut_rw [0, 1, 2, 3, 4, 6] (by simp) rfl (by simp [hTl]) ?_
      simp [hsh, dat, hC, ← hr, hTL, beP]
    rintro ⟨i, hi⟩
    simp only
    simp
    refine WC_dec (fun h => ?_) (fun h => ?_)
    · have e3 : IntKind.u64.wrap (8 * (st.length : Int)) = ((8 * st.length : Nat) : Int) := by
        rw [show 8 * (st.length : Int) = ((8 * st.length : Nat) : Int) by simp, wrapu64, Nat.mod_eq_of_lt (by omega)]
      obtain ⟨x, hx⟩ : ∃ x, x = 8 * st.length := ⟨_, rfl⟩
      obtain ⟨s, hs⟩ : ∃ s, s = 56 - 8 * i := ⟨_, rfl⟩
      have e4 : IntKind.i64.wrap (56 - IntKind.i64.wrap (8 * (i : Int))) = (s : Int) := by
        rw [wrap64s (n := 8 * (i : Int)) (by omega) (by omega), wrap64s (by omega) (by omega)]; omega
      have e5 := beP_byte x i s hs
      rw [← hx] at e3 ⊢
      simp [hsh, dat, hC, e3, e4, e5, IntKind.bits, beP_len]
      refine ⟨by omega, ⟨i + 1, by omega⟩, by simp; omega, ?_⟩
      refine cut_rw [0, 1, 2, 3, 4, 6] (by simp) rfl (by simp [Nat.add_assoc, wrap64s (n := (i : Int) + 1) (by omega) (by omega)]) ?_
      simp [hr, List.take_of_length_le, beP_succ, beP_len]
    have hi8 : i = 8 := by omega
    subst hi8
    obtain ⟨TT, hTT⟩ : ∃ TT, TT = TL ++ beP (8 * st.length) 8 := ⟨_, rfl⟩
    have hTTl : TT.length = TL.length + 8 := by rw [hTT]; simp [beP_len]
    have hTTt : TT = tailB 64 st.length := by
      rw [hTT, hTL, hr, hrl]; simp [tailB, be8, beP]
    have hTm : TL.map bv ++ (beP (8 * st.length) 8).map bv = TT.map bv := by rw [hTT]; simp
    simp [hTm]
    refine W_cut (cut_frz 5 rfl) ?_
    simp [hsh, dat, hC, hTTl, List.take_of_length_le]
    have hw2 := fGWrite_spec st [] TT 0 ⟨false, false, false⟩ (by omega) (by omega)
    simp only [hsh, dat, hC, ← hr, List.nil_append, List.length_nil] at hw2
    refine WO_callF [4, 3] (as' := [.ptr 0 0, .list 1 ⟨false, false, false⟩ (TT.map bv)]) rfl (by simp) hw2 (by simp) (by simp) (by simp) ?_
    simp
    have hdg : dgst F64 st = dgB (hst F64 (st ++ TT)) := by rw [hTTt]; rfl
    generalize hst F64 (st ++ TT) = S at *
    rw [hdg]
    refine W_loop (X := { i : Nat // i ≤ 8 }) (fun i => [(2, .ptr 2 0), (6, .ptr 7 0), (64, .agg (S.cells .u64)), (65, .int .i64 i.1)])
      (fun i => [hsh F64 .u64 184 1 st pre st.length, dat 64 5 st pre, some ⟨arr .u8 64 fun _ => 0, 150, true⟩, none, none, none, none, some ⟨arr .u8 64 (fill (8 * i.1) (dgN S)), 150, true⟩]) (fun i => 8 - i.1) ⟨0, by omega⟩ retPost_le ?_ ?_
    · exact cut_w (by simp [hsh, dat, hC, St8.cells, hr])
    rintro ⟨i, hi⟩
    simp only
    simp
    refine WC_dec (fun h => ?_) (fun h => ?_)
    · have h8 : i < 8 := by omega
      simp [cells_at .u64 S h8, h]
      refine W_loop (X := { k : Nat // k ≤ 8 }) (fun k => [(2, .ptr 2 0), (6, .ptr 7 0), (7, .int .i64 i), (8, .int .u64 (wn (S.at i) : Nat)), (64, .agg (S.cells .u64)), (65, .int .i64 i), (69, .int .i64 k.1)])
        (fun k => [hsh F64 .u64 184 1 st pre st.length, dat 64 5 st pre, some ⟨arr .u8 64 fun _ => 0, 150, true⟩, none, none, none, none, some ⟨arr .u8 64 (fill (8 * i + k.1) (dgN S)), 150, true⟩]) (fun k => 8 - k.1) ⟨0, by omega⟩ retPost_le ?_ ?_
      · exact cut_w (by simp [hsh, dat, hC, St8.cells, hr])
      rintro ⟨k, hk⟩
      simp only
      simp
      refine WC_dec (fun g => ?_) (fun g => ?_)
      · obtain ⟨p, hp⟩ : ∃ p, p = 8 * i + k := ⟨_, rfl⟩
        obtain ⟨s, hs⟩ : ∃ s, s = 56 - 8 * k := ⟨_, rfl⟩
        have e3 : IntKind.i64.wrap (IntKind.i64.wrap (8 * (i : Int)) + (k : Int)) = (p : Int) := by
          rw [wrap64s (n := 8 * (i : Int)) (by omega) (by omega), wrap64s (by omega) (by omega)]; omega
        have e4 : IntKind.i64.wrap (56 - IntKind.i64.wrap (8 * (k : Int))) = (s : Int) := by
          rw [wrap64s (n := 8 * (k : Int)) (by omega) (by omega), wrap64s (by omega) (by omega)]; omega
        have e5 : IntKind.u8.wrap (((wn (S.at i) : Nat) : Int).fdiv (2 ^ (min s 64))) = (dgN S p : Nat) := by
          rw [show min s 64 = s by omega, shr_nat, wrapu8]
          simp only [dgN, show 64 / 8 = 8 from rfl, show p / 8 = i by omega, show p % 8 = k by omega]
          rw [show 64 - 8 - 8 * k = s by omega]
        rw [← hp]
        simp [e3, e4, e5, IntKind.bits, show p < 64 by omega]
        refine ⟨by omega, by omega, ⟨k + 1, by omega⟩, by simp; omega, ?_⟩
        exact cut_w (by simp [hsh, dat, hC, ← hr, hp, Nat.add_assoc, wrap64s (n := (k : Int) + 1) (by omega) (by omega)])
      · have : k = 8 := by omega
        subst this
        simp
        refine ⟨⟨i + 1, by omega⟩, by simp; omega, ?_⟩
        exact cut_w (by simp [hsh, dat, hC, ← hr, Nat.mul_add, wrap64s (n := (i : Int) + 1) (by omega) (by omega)])
    · have : i = 8 := by omega
      subst this
      simp [arr_fill]
      refine fin_W ?_
      rw [← dgB_arr]
      simp [hsh, dat, hC, ← hr]
end Go.Proofs.Ythgibibeoapfbaa
