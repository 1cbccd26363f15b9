/-
  Digests of sixty-four bits a word: a step.
-/
import Derived.Test.YthgibibeoapfbaaeG1
set_option linter.unusedSimpArgs false
set_option linter.unnecessarySimpa false
set_option linter.unusedVariables false
set_option linter.unusedSectionVars false
namespace Go.Proofs.Ythgibibeoapfbaa
open Go Go.Fw
attribute [local simp] bv cleanL_bv toBytes_bv ltL_bv atF_drop WS_at_bytes W_nil W_skip W_seq W_reg W_draw W_drawP W_kill W_keep W_block W_blk W_exit W_ret WX_blk WX_c WX_lp WX_li W_li W_condT W_condF W_cond WC_true WC_false
  WR_nil WR_cons WR_o1 WR_o2 o1_chk o2_chk WR_grd WG_tt WG_ff WG_tf WG_ft WG_none WS_some WS_ok1 WSr_no WSr_some WSr_ok1 WSr_at_bytes WH_some WHA_some chkF_cons chkF_nil chkE_some chkE_ok1 chkE_at evF WO_mv WO_pick WO_bin WO_isNil WO_eqA WO_un WO_convI WO_toStr WO_ofStr WO_build WO_buildF WO_load WO_nilCheck WO_fieldAddr WO_field WO_idxA WO_idxS
  WO_ixA WO_slS WO_slA WO_len WO_lenK WO_appF WO_extract WO_s2a WO_iface WO_min WO_max WO_alloc WO_box WO_buildO WO_store WO_appO WO_copy WO_makeS WO_allocA WO_makeA WO_cvt cvtF_slice WO_look lookF_map alAF mkAF WO_func bind1_v bind2_v bindH_v bindH2_v bindS_v okO_v pickO_t pickO_f
  Env.keep Env.get Env.set Env.del Env.dels Env.setO Env.opd Env.opds Env.opdO Env.parts intF aggF fillA splice cleanL AV.clean bndF fldF_one fldF_many toStrF boxF buildOF
  loadF_rptr loadF_rptrN atF_zero atF_succ blk_cons_zero blk_cons_succ loadF_p loadF_pN atB_some atBN_some retPost resL one
  okc_bool cells_bool notStr_bool okc_int cells_int notStr_int okc_str cells_str notStr_str okc_nil cells_nil notStr_nil okc_ptr cells_ptr notStr_ptr okc_rptr cells_rptr notStr_rptr okc_slice cells_slice notStr_slice 
  okc_list cells_list notStr_list okc_func cells_func notStr_func okc_nilFunc cells_nilFunc notStr_nilFunc okc_iface cells_iface notStr_iface okc_nilIface cells_nilIface notStr_nilIface okc_agg cells_agg notStr_agg 
  okc_tuple cells_tuple notStr_tuple lenF_slice lenF_list lenF_str faF_ptr faF_rptr idxSF_slice idxSF_list idxAF_ptr idxAF_rptr ixAF_many ixAF_one convF_int unF_neg unF_xor unF_not nilF_0nil nilF_0ptr nilF_0rptr nilF_1 
  nilF_2nil nilF_2f nilF_3nil nilF_3f binF_int binF_beq binF_bne binF_sadd binF_seq binF_sne sliceCells_list sliceCells_str sliceCells_slice cutC_some szAV_list szAV_str szAV_slice oneSl_list oneSl_slice slSF_sliceS 
  slSF_sliceN slSF_list slAF_rptr slAF_ptr appFF_list appOF_list appOF_sliceN appOF_sliceS storeF_ptr copyF_slice extF_tuple s2aF_slice s2aF_list nchkF_ptr nchkF_rptr nchkF_f mmF_int ofStrF_str mkSF_int eqAF_agg
attribute [local irreducible] W WX WR WO WS WSr WH WHA WG WC FSpec
attribute [local simp] lendAll
attribute [local congr] W_cg WR_cg WO_cg WS_cg WSr_cg WH_cg WHA_cg WG_cg WC_cg WX_cg
attribute [local simp] Env.has AV.wkr wkrL AV.wkr_refl wkrL_refl AV.ltI ltL leHW hasW Env.lt AV.ids idsL AV.sub subL AV.ren AV.frz frzS frzP frzE frzL Heap.frz Blk.frz Blk.ren renL rnS rnP hasR leR idsL_bv subL_bv
attribute [local simp] cleanL_take cleanL_drop ltL_take ltL_drop idsL_take idsL_drop subL_take subL_drop cleanL_append ltL_append idsL_append subL_append
attribute [local simp] renE mvN mvH
attribute [local simp] fwd backH putL bwd
attribute [local simp] u8i u8e List.idxOf_cons
attribute [local simp] hasRW leRW
attribute [local simp] WS_at_map WSr_at_map WS_at_arr WSr_at_arr loadWP splice_full Int.natCast_inj arr_set arr_take
theorem arr0_80 : ([.int .u64 0, .int .u64 0, .int .u64 0, .int .u64 0, .int .u64 0, .int .u64 0, .int .u64 0, .int .u64 0, .int .u64 0, .int .u64 0, .int .u64 0, .int .u64 0, .int .u64 0, .int .u64 0, .int .u64 0, .int .u64 0, .int .u64 0, .int .u64 0, .int .u64 0, .int .u64 0, .int .u64 0, .int .u64 0, .int .u64 0, .int .u64 0, .int .u64 0, .int .u64 0, .int .u64 0, .int .u64 0, .int .u64 0, .int .u64 0, .int .u64 0, .int .u64 0, .int .u64 0, .int .u64 0, .int .u64 0, .int .u64 0, .int .u64 0, .int .u64 0, .int .u64 0, .int .u64 0, .int .u64 0, .int .u64 0, .int .u64 0, .int .u64 0, .int .u64 0, .int .u64 0, .int .u64 0, .int .u64 0, .int .u64 0, .int .u64 0, .int .u64 0, .int .u64 0, .int .u64 0, .int .u64 0, .int .u64 0, .int .u64 0, .int .u64 0, .int .u64 0, .int .u64 0, .int .u64 0, .int .u64 0, .int .u64 0, .int .u64 0, .int .u64 0, .int .u64 0, .int .u64 0, .int .u64 0, .int .u64 0, .int .u64 0, .int .u64 0, .int .u64 0, .int .u64 0, .int .u64 0, .int .u64 0, .int .u64 0, .int .u64 0, .int .u64 0, .int .u64 0, .int .u64 0, .int .u64 0] : List AV) = arr .u64 80 fun _ => 0 := by kernel_rfl
attribute [local simp] arr0_80
theorem xor64 (x y : BitVec 64) : bitI .xor .u64 (wn x : Nat) (wn y : Nat) = (wn (x ^^^ y) : Nat) := wx_xor rfl (by decide) x y
theorem and64 (x y : BitVec 64) : bitI .and .u64 (wn x : Nat) (wn y : Nat) = (wn (x &&& y) : Nat) := wx_and rfl (by decide) x y
theorem shr64_7 (x : BitVec 64) : ((wn x : Nat) : Int).fdiv 128 = (wn (x >>> 7) : Nat) := wx_shr x 7
theorem shr64_6 (x : BitVec 64) : ((wn x : Nat) : Int).fdiv 64 = (wn (x >>> 6) : Nat) := wx_shr x 6
attribute [local simp] xor64 and64 shr64_7 shr64_6 wx_add64 wx_not64
theorem fGStep_spec (s : St8 64) (blk : List UInt8) (md : Md) (hb : blk.length = 128) (o l n : Nat) :
    FSpec Try.prog 135 [.ptr 0 0, .list 1 md (blk.map bv)] [some ⟨hC .u64 s 1 o l n, 184, true⟩, none] (.tuple []) [some ⟨hC .u64 (comp F64 s blk) 1 o l n, 184, true⟩, none] := by
  refine FSpec.of_W fGStep_low (by simp) ?_
  simp only [initEnv]
  simp
  refine W_loop (X := { i : Nat // i ≤ 80 }) (fun i => [(0, .ptr 0 0), (1, .list 1 md (blk.map bv)), (4, .ptr 2 0), (21, .int .i64 i.1)]) (fun i => [some ⟨hC .u64 s 1 o l n, 184, true⟩, none, some ⟨arr .u64 80 (wA F64 blk i.1), 188, true⟩]) (fun i => 80 - i.1) ⟨0, by omega⟩ retPost_le ?_ ?_
  · refine cut_w ?_
    simp [hC, wA_zero]
  rintro ⟨i, hi⟩
  simp only
  simp
  refine WC_dec (fun h => ?_) (fun h => ?_)
  · have h64 : i < 80 := by omega
    by_cases h16 : i < 16
    · have hn : nextW F64 blk (wL F64 blk i) i = BitVec.ofNat 64 (beN ((blk.drop (8 * i)).take 8)) := by
        simp only [nextW, if_pos h16]
      have hu := wL_upd F64 blk i
      rw [hn] at hu
      have hz : wA F64 blk i i = 0 := by
        simp only [wA]
        have hl := wL_length F64 blk i
        rw [List.getD_eq_getElem?_getD, List.getElem?_eq_none (by omega)]; rfl
      have hw8 : wn (BitVec.ofNat 64 (beN ((blk.drop (8 * i)).take 8))) = beN ((blk.drop (8 * i)).take 8) := by
        simp only [wn, BitVec.toNat_ofNat]
        refine Nat.mod_eq_of_lt (Nat.lt_of_lt_of_le (beN_lt _) ?_)
        exact Nat.le_trans (Nat.pow_le_pow_right (by decide) (by simp; omega : ((blk.drop (8 * i)).take 8).length ≤ 8)) (by decide)
      rw [hw8] at hu
      simp [show (i : Int) < 16 by omega]
      refine W_loop (X := { k : Nat // k ≤ 8 }) (fun k => [(0, .ptr 0 0), (1, .list 1 md (blk.map bv)), (4, .ptr 2 0), (5, .int .i64 i), (21, .int .i64 i), (26, .int .i64 k.1)]) (fun k => [some ⟨hC .u64 s 1 o l n, 184, true⟩, none, some ⟨arr .u64 80 (upd (wA F64 blk i) i (beN ((blk.drop (8 * i)).take k.1))), 188, true⟩]) (fun k => 8 - k.1) ⟨0, by omega⟩ retPost_le ?_ ?_
      · refine cut_w ?_
        have e : upd (wA F64 blk i) i 0 = wA F64 blk i := by
          funext k; simp only [upd]; split
          · rename_i h; rw [h, hz]
          · rfl
        simp [hC, beN, e]
      rintro ⟨k, hk⟩
      simp only
      simp
      refine WC_dec (fun g => ?_) (fun g => ?_)
      · obtain ⟨q, hq⟩ : ∃ q, q = 8 * i + k := ⟨_, rfl⟩
        have e1 : IntKind.i64.wrap (IntKind.i64.wrap (8 * (i : Int)) + (k : Int)) = (q : Int) := by
          rw [wrap64s (n := 8 * (i : Int)) (by omega) (by omega), wrap64s (by omega) (by omega)]; omega
        have hqb : q < blk.length := by omega
        have gq : blk[q]? = some blk[q] := by simp
        have hs : beN ((blk.drop (8 * i)).take (k + 1)) = beN ((blk.drop (8 * i)).take k) * 256 + blk[q].toNat := by
          rw [List.take_succ_eq_append_getElem (by simp; omega), beN_snoc, List.getElem_drop]
          subst hq; rfl
        have hx := blk[q].toNat_lt
        have hv : beN ((blk.drop (8 * i)).take k) < 2 ^ 56 := by
          refine Nat.lt_of_lt_of_le (beN_lt _) ?_
          exact Nat.le_trans (Nat.pow_le_pow_right (by decide) (by simp; omega : ((blk.drop (8 * i)).take k).length ≤ 7)) (by decide)
        have ev : bitI .or .u64 (IntKind.u64.wrap ((beN ((blk.drop (8 * i)).take k) : Nat) * 256)) (blk[q].toNat : Nat) = (beN ((blk.drop (8 * i)).take (k + 1)) : Nat) := by
          rw [hs]
          generalize beN ((blk.drop (8 * i)).take k) = z at *
          rw [show ((z : Int) * 256) = ((z * 256 : Nat) : Int) by simp, wrapu64, Nat.mod_eq_of_lt (by omega), bitI_or rfl (show z * 256 < 2 ^ 64 by omega) (show blk[q].toNat < 2 ^ 64 by omega)]
          have e3 := shl_or blk[q].toNat z 8 hx
          rw [show (2 : Nat) ^ 8 = 256 from rfl] at e3
          rw [e3]
        have hself : upd (wA F64 blk i) i (beN ((blk.drop (8 * i)).take k)) i = beN ((blk.drop (8 * i)).take k) := by simp [upd]
        have hupd : ∀ v, upd (upd (wA F64 blk i) i (beN ((blk.drop (8 * i)).take k))) i v = upd (wA F64 blk i) i v := by
          intro v; funext j; simp only [upd]; split <;> rfl
        simp [h, h64, e1, gq, hself, ev, hupd, wrap_b64, IntKind.bits]
        refine ⟨by omega, by omega, ⟨k + 1, by omega⟩, by simp; omega, ?_⟩
        exact cut_w (by simp [hC, wrap64s (n := (k : Int) + 1) (by omega) (by omega)])
      · have : k = 8 := by omega
        subst this
        simp [hu]
        refine ⟨⟨i + 1, by omega⟩, by simp; omega, ?_⟩
        exact cut_w (by simp [hC, wrap64s (n := (i : Int) + 1) (by omega) (by omega)])
    · obtain ⟨j16, h16'⟩ : ∃ j, j = i - 16 := ⟨_, rfl⟩
      obtain ⟨j15, h15⟩ : ∃ j, j = i - 15 := ⟨_, rfl⟩
      obtain ⟨j7, h7⟩ : ∃ j, j = i - 7 := ⟨_, rfl⟩
      obtain ⟨j2, h2⟩ : ∃ j, j = i - 2 := ⟨_, rfl⟩
      have e16 : IntKind.i64.wrap ((i : Int) - 16) = (j16 : Int) := by rw [wrap64s (by omega) (by omega)]; omega
      have e15 : IntKind.i64.wrap ((i : Int) - 15) = (j15 : Int) := by rw [wrap64s (by omega) (by omega)]; omega
      have e7 : IntKind.i64.wrap ((i : Int) - 7) = (j7 : Int) := by rw [wrap64s (by omega) (by omega)]; omega
      have e2 : IntKind.i64.wrap ((i : Int) - 2) = (j2 : Int) := by rw [wrap64s (by omega) (by omega)]; omega
      have hu := wL_upd F64 blk i
      simp only [nextW, if_neg h16, ← h16', ← h15, ← h7, ← h2] at hu
      obtain ⟨x16, a16⟩ : ∃ x, x = (wL F64 blk i).getD j16 0 := ⟨_, rfl⟩
      obtain ⟨x15, a15⟩ : ∃ x, x = (wL F64 blk i).getD j15 0 := ⟨_, rfl⟩
      obtain ⟨x7, a7⟩ : ∃ x, x = (wL F64 blk i).getD j7 0 := ⟨_, rfl⟩
      obtain ⟨x2, a2⟩ : ∃ x, x = (wL F64 blk i).getD j2 0 := ⟨_, rfl⟩
      rw [← a16, ← a15, ← a7, ← a2] at hu
      have b16 : wA F64 blk i j16 = wn x16 := by rw [a16]; rfl
      have b15 : wA F64 blk i j15 = wn x15 := by rw [a15]; rfl
      have b7 : wA F64 blk i j7 = wn x7 := by rw [a7]; rfl
      have b2 : wA F64 blk i j2 = wn x2 := by rw [a2]; rfl
      simp [h, h64, show ¬ (i : Int) < 16 by omega, e15, e2, b15, b2, show j15 < 80 by omega, show j2 < 80 by omega, show (j15 : Int) < 80 by omega, show (j2 : Int) < 80 by omega]
      refine WO_callP [] rfl rfl (fRot64_spec x15 1 (by decide) (by decide)) (by simp) (by simp) ?_
      simp
      refine WO_callP [] rfl rfl (fRot64_spec x15 8 (by decide) (by decide)) (by simp) (by simp) ?_
      simp [IntKind.bits]
      refine WO_callP [] rfl rfl (fRot64_spec x2 19 (by decide) (by decide)) (by simp) (by simp) ?_
      simp
      refine WO_callP [] rfl rfl (fRot64_spec x2 61 (by decide) (by decide)) (by simp) (by simp) ?_
      have hu2 : upd (wA F64 blk i) i (wn (x16 + (x15.rotateRight 1 ^^^ x15.rotateRight 8 ^^^ x15 >>> 7) + x7 + (x2.rotateRight 19 ^^^ x2.rotateRight 61 ^^^ x2 >>> 6))) = wA F64 blk (i + 1) := hu
      simp [h, h64, e16, e7, b16, b7, hu2, show j16 < 80 by omega, show j7 < 80 by omega, show (j16 : Int) < 80 by omega, show (j7 : Int) < 80 by omega, IntKind.bits]
      refine ⟨by omega, ⟨i + 1, by omega⟩, by simp; omega, ?_⟩
      exact cut_w (by simp [hC, wrap64s (n := (i : Int) + 1) (by omega) (by omega)])
  have : i = 80 := by omega
  subst this
  simp
  refine WO_callQ rfl fGRounds_spec (by simp) ?_
  simp [hC]
  refine W_loop (X := { i : Nat // i ≤ 80 }) (fun i => [(0, .ptr 0 0), (4, .ptr 2 0), (11, .ptr 3 0), (12, .ptr 4 0), (90, .int .i64 i.1)]) (fun i => [some ⟨hC .u64 s 1 o l n, 184, true⟩, none, some ⟨arr .u64 80 (wA F64 blk 80), 188, true⟩, some ⟨arr .u64 80 (fun i => wn (F64.k i)), 188, true⟩, some ⟨(rnds F64 (wL F64 blk 80) s i.1).cells .u64, 180, true⟩]) (fun i => 80 - i.1) ⟨0, by omega⟩ retPost_le ?_ ?_
  · exact cut_w (by simp [hC, rnds, St8.cells])
  rintro ⟨i, hi⟩
  simp only
  simp
  refine WC_dec (fun h => ?_) (fun h => ?_)
  · have h64 : i < 80 := by omega
    have hr : rnds F64 (wL F64 blk 80) s (i + 1) = rnd F64 (F64.k i) ((wL F64 blk 80).getD i 0) (rnds F64 (wL F64 blk 80) s i) := rfl
    obtain ⟨w, hw⟩ : ∃ w, w = (wL F64 blk 80).getD i 0 := ⟨_, rfl⟩
    have bw : wA F64 blk 80 i = wn w := by rw [hw]; rfl
    obtain ⟨kk, hk⟩ : ∃ kk, kk = F64.k i := ⟨_, rfl⟩
    rw [← hw, ← hk] at hr
    obtain ⟨⟨sa, sb, sc, sd, se, sf, sg, sh⟩, hS⟩ : ∃ st, st = rnds F64 (wL F64 blk 80) s i := ⟨_, rfl⟩
    rw [← hS] at hr ⊢
    simp [St8.cells, h]
    have hr2 : rnds F64 (wL F64 blk 80) s (i + 1) = ⟨sh + (se.rotateRight 14 ^^^ se.rotateRight 18 ^^^ se.rotateRight 41) + ((se &&& sf) ^^^ (~~~se &&& sg)) + kk + w + (sa.rotateRight 28 ^^^ sa.rotateRight 34 ^^^ sa.rotateRight 39) + ((sa &&& sb) ^^^ (sa &&& sc) ^^^ (sb &&& sc)), sa, sb, sc, sd + (sh + (se.rotateRight 14 ^^^ se.rotateRight 18 ^^^ se.rotateRight 41) + ((se &&& sf) ^^^ (~~~se &&& sg)) + kk + w), se, sf, sg⟩ := hr
    clear hr
    refine WO_callP [] rfl rfl (fRot64_spec se 14 (by decide) (by decide)) (by simp) (by simp) ?_
    simp
    refine WO_callP [] rfl rfl (fRot64_spec se 18 (by decide) (by decide)) (by simp) (by simp) ?_
    simp
    refine WO_callP [] rfl rfl (fRot64_spec se 41 (by decide) (by decide)) (by simp) (by simp) ?_
    simp [h, h64, bw, ← hk]
    refine WO_callP [] rfl rfl (fRot64_spec sa 28 (by decide) (by decide)) (by simp) (by simp) ?_
    simp
    refine WO_callP [] rfl rfl (fRot64_spec sa 34 (by decide) (by decide)) (by simp) (by simp) ?_
    simp
    refine WO_callP [] rfl rfl (fRot64_spec sa 39 (by decide) (by decide)) (by simp) (by simp) ?_
    simp
    refine ⟨⟨i + 1, by omega⟩, by simp; omega, ?_⟩
    exact cut_w (by simp [hC, St8.cells, hr2, wrap64s (n := (i : Int) + 1) (by omega) (by omega)])
  have : i = 80 := by omega
  subst this
  have hc : comp F64 s blk = s.add (rnds F64 (wL F64 blk 80) s 80) := rfl
  obtain ⟨t, ht⟩ : ∃ t, t = rnds F64 (wL F64 blk 80) s 80 := ⟨_, rfl⟩
  rw [← ht] at hc ⊢
  rw [hc]
  simp
  refine W_loop (X := { i : Nat // i ≤ 8 }) (fun i => [(0, .ptr 0 0), (12, .ptr 4 0), (172, .int .i64 i.1)]) (fun i => [some ⟨hM .u64 i.1 s t o l n, 184, true⟩, none, none, none, some ⟨t.cells .u64, 180, true⟩]) (fun i => 8 - i.1) ⟨0, by omega⟩ retPost_le ?_ ?_
  · exact cut_w (by simp [hC, hM, St8.cells])
  rintro ⟨i, hi⟩
  simp only
  simp
  refine WC_dec (fun h => ?_) (fun h => ?_)
  · have : i = 0 ∨ i = 1 ∨ i = 2 ∨ i = 3 ∨ i = 4 ∨ i = 5 ∨ i = 6 ∨ i = 7 := by omega
    rcases this with rfl | rfl | rfl | rfl | rfl | rfl | rfl | rfl
    · simp [hM, St8.cells]
      exact ⟨⟨1, by omega⟩, by simp, cut_w (by simp [hM, St8.cells, wrap64s])⟩
    · simp [hM, St8.cells]
      exact ⟨⟨2, by omega⟩, by simp, cut_w (by simp [hM, St8.cells, wrap64s])⟩
    · simp [hM, St8.cells]
      exact ⟨⟨3, by omega⟩, by simp, cut_w (by simp [hM, St8.cells, wrap64s])⟩
    · simp [hM, St8.cells]
      exact ⟨⟨4, by omega⟩, by simp, cut_w (by simp [hM, St8.cells, wrap64s])⟩
    · simp [hM, St8.cells]
      exact ⟨⟨5, by omega⟩, by simp, cut_w (by simp [hM, St8.cells, wrap64s])⟩
    · simp [hM, St8.cells]
      exact ⟨⟨6, by omega⟩, by simp, cut_w (by simp [hM, St8.cells, wrap64s])⟩
    · simp [hM, St8.cells]
      exact ⟨⟨7, by omega⟩, by simp, cut_w (by simp [hM, St8.cells, wrap64s])⟩
    · simp [hM, St8.cells]
      exact ⟨⟨8, by omega⟩, by simp, cut_w (by simp [hM, St8.cells, wrap64s])⟩
  have : i = 8 := by omega
  subst this
  simp
  exact fin_W (by simp [hM, hC, St8.add])
end Go.Proofs.Ythgibibeoapfbaa
