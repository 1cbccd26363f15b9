/-
  The document's digest.
-/
import Derived.Test.YthgibibeoapfbaaeG7
set_option linter.unusedSimpArgs false
set_option linter.unnecessarySimpa false
set_option linter.unusedVariables false
set_option linter.unusedSectionVars false
namespace Go.Proofs.Ythgibibeoapfbaa
open Go Go.Fw
attribute [local simp] bv cleanL_bv toBytes_bv ltL_bv atF_drop WS_at_bytes W_nil W_skip W_seq W_reg W_draw W_drawP W_kill W_keep W_block W_blk W_exit W_ret WX_blk WX_c WX_lp WX_li W_li W_condT W_condF W_cond WC_true WC_false
  WR_nil WR_cons WR_o1 WR_o2 o1_chk o2_chk WR_grd WG_tt WG_ff WG_tf WG_ft WG_none WS_some WS_ok1 WSr_no WSr_some WSr_ok1 WSr_at_bytes WH_some WHA_some chkF_cons chkF_nil chkE_some chkE_ok1 chkE_at evF WO_mv WO_pick WO_bin WO_isNil WO_eqA WO_un WO_convI WO_toStr WO_ofStr WO_build WO_buildF WO_load WO_nilCheck WO_fieldAddr WO_field WO_idxA WO_idxS
  WO_ixA WO_slS WO_slA WO_len WO_lenK WO_appF WO_extract WO_s2a WO_iface WO_min WO_max WO_alloc WO_box WO_buildO WO_store WO_appO WO_copy WO_makeS WO_allocA WO_makeA WO_cvt cvtF_slice WO_look lookF_map alAF mkAF WO_func bind1_v bind2_v bindH_v bindH2_v bindS_v okO_v pickO_t pickO_f
  Env.keep Env.get Env.set Env.del Env.dels Env.setO Env.opd Env.opds Env.opdO Env.parts intF aggF fillA splice cleanL AV.clean bndF fldF_one fldF_many toStrF boxF buildOF
  loadF_rptr loadF_rptrN atF_zero atF_succ blk_cons_zero blk_cons_succ loadF_p loadF_pN atB_some atBN_some retPost resL one
  okc_bool cells_bool notStr_bool okc_int cells_int notStr_int okc_str cells_str notStr_str okc_nil cells_nil notStr_nil okc_ptr cells_ptr notStr_ptr okc_rptr cells_rptr notStr_rptr okc_slice cells_slice notStr_slice 
  okc_list cells_list notStr_list okc_func cells_func notStr_func okc_nilFunc cells_nilFunc notStr_nilFunc okc_iface cells_iface notStr_iface okc_nilIface cells_nilIface notStr_nilIface okc_agg cells_agg notStr_agg 
  okc_tuple cells_tuple notStr_tuple lenF_slice lenF_list lenF_str faF_ptr faF_rptr idxSF_slice idxSF_list idxAF_ptr idxAF_rptr ixAF_many ixAF_one convF_int unF_neg unF_xor unF_not nilF_0nil nilF_0ptr nilF_0rptr nilF_1 
  nilF_2nil nilF_2f nilF_3nil nilF_3f binF_int binF_beq binF_bne binF_sadd binF_seq binF_sne sliceCells_list sliceCells_str sliceCells_slice cutC_some szAV_list szAV_str szAV_slice oneSl_list oneSl_slice slSF_sliceS 
  slSF_sliceN slSF_list slAF_rptr slAF_ptr appFF_list appOF_list appOF_sliceN appOF_sliceS storeF_ptr copyF_slice extF_tuple s2aF_slice s2aF_list nchkF_ptr nchkF_rptr nchkF_f mmF_int ofStrF_str mkSF_int eqAF_agg
attribute [local irreducible] W WX WR WO WS WSr WH WHA WG WC FSpec
attribute [local simp] lendAll
attribute [local congr] W_cg WR_cg WO_cg WS_cg WSr_cg WH_cg WHA_cg WG_cg WC_cg WX_cg
attribute [local simp] Env.has AV.wkr wkrL AV.wkr_refl wkrL_refl AV.ltI ltL leHW hasW Env.lt AV.ids idsL AV.sub subL AV.ren AV.frz frzS frzP frzE frzL Heap.frz Blk.frz Blk.ren renL rnS rnP hasR leR idsL_bv subL_bv
attribute [local simp] cleanL_take cleanL_drop ltL_take ltL_drop idsL_take idsL_drop subL_take subL_drop cleanL_append ltL_append idsL_append subL_append
attribute [local simp] renE mvN mvH
attribute [local simp] fwd backH putL bwd
attribute [local simp] u8i u8e List.idxOf_cons
attribute [local simp] hasRW leRW
attribute [local simp] WS_at_map WSr_at_map WS_at_arr WSr_at_arr loadWP splice_full Int.natCast_inj arr_set arr_take
theorem fStart_spec : FSpec Try.prog 103 [] [] (.list 1 ⟨false, false, false⟩ (shaS.map (nV .u64))) [] := by
  refine FSpec.of_W fStart_low (by simp) ?_
  simp only [initEnv]
  simp
  exact fin_W (by simp [shaS, nV])
theorem fWords_spec : FSpec Try.prog 104 [] [] (.list 1 ⟨false, false, false⟩ (shaW.map (nV .u64))) [] := by
  refine FSpec.of_W fWords_low (by simp) ?_
  simp only [initEnv]
  simp
  exact fin_W (by simp [shaW, nV])
theorem shaS_len : shaS.length = 8 := rfl
theorem shaW_len : shaW.length = 80 := rfl
theorem zN_ok {m : Nat} (hm : OkM m) (L j : Nat) (hj : j ≤ zN (2 * m) (14 * (m / 8)) (L % (2 * m))) : (L + (1 + j)) % (2 * m) = 14 * (m / 8) ↔ j = zN (2 * m) (14 * (m / 8)) (L % (2 * m)) := by
  rcases hm with rfl | rfl
  · have h := zN_64 (L % 64) j (Nat.mod_lt _ (by decide)) hj
    rw [show 2 * 32 = 64 from rfl, show 14 * (32 / 8) = 56 from rfl] at *
    rw [← h]; omega
  · have h := zN_128 (L % 128) j (Nat.mod_lt _ (by decide)) hj
    rw [show 2 * 64 = 128 from rfl, show 14 * (64 / 8) = 112 from rfl] at *
    rw [← h]; omega
theorem tail_mod {m : Nat} (hm : OkM m) (L : Nat) : (L + (tailB m L).length) % (2 * m) = 0 := by
  have hz := zN_ok hm L (zN (2 * m) (14 * (m / 8)) (L % (2 * m))) (Nat.le_refl _)
  have h := hz.2 rfl
  rcases hm with rfl | rfl
  · simp [tailB, be8_len] at *; omega
  · simp [tailB, be8_len] at *; omega
set_option maxHeartbeats 2000000 in
/-- The digest of the document. -/
theorem fSum3_spec {m : Nat} (F : Sha m) (hm : OkM m) (hF : OkF F) (b : List UInt8) (md : Md) (hb : b.length < 2 ^ 40) : FSpec Try.prog 58 [.agg (frm F), .list 1 md (b.map bv)] [] (.list 1 ⟨false, false, false⟩ ((dgst F b).map bv)) [] := by
  obtain ⟨sz, hsz⟩ : ∃ sz, sz = m / 8 := ⟨_, rfl⟩
  have hms : (m = 32 ∧ sz = 4) ∨ (m = 64 ∧ sz = 8) := by rcases hm with h | h <;> omega
  have e8 : (m : Int).tdiv 8 = (sz : Int) := by rw [hsz]; rfl
  obtain ⟨L, hL⟩ : ∃ L, L = b.length := ⟨_, rfl⟩
  obtain ⟨z, hz⟩ : ∃ z, z = zN (2 * m) (14 * (m / 8)) (L % (2 * m)) := ⟨_, rfl⟩
  have hzl : z < 2 * m := by rw [hz]; exact zN_lt _ _ _ (by omega)
  refine FSpec.of_W fSum3_low (by simp) ?_
  simp only [initEnv]
  simp [frm, e8, wrap64s (n := (sz : Int)) (by omega) (by omega), List.take_of_length_le]
  refine ⟨by omega, by omega, ?_⟩
  refine W_loop (X := { j : Nat // j ≤ z }) (fun j => [(1, .list 1 md (b.map bv)), (2, .ptr 0 0), (5, .int .i64 sz), (6, .slice 1 1 0 (L + 1 + j.1) none)])
    (fun j => [some ⟨frm F, 109, true⟩, some ⟨(b ++ 128 :: List.replicate j.1 0).map bv, 5, false⟩]) (fun j => z - j.1) ⟨0, by omega⟩ retPost_le ?_ ?_
  · refine cut_rw [0, 2] (by simp) rfl (by simp [hL]) ?_
    simp [frm]
  rintro ⟨j, hj⟩
  have hzj := zN_ok hm L j (by omega)
  rw [← hz, ← hsz] at hzj
  obtain ⟨w, hw⟩ : ∃ w, w = L + 1 + j := ⟨_, rfl⟩
  obtain ⟨B, hB⟩ : ∃ B, B = 16 * sz := ⟨_, rfl⟩
  obtain ⟨T, hT⟩ : ∃ T, T = 14 * sz := ⟨_, rfl⟩
  obtain ⟨v, hv⟩ : ∃ v, v = w % B := ⟨_, rfl⟩
  have e1 : IntKind.i64.wrap (16 * (sz : Int)) = (B : Int) := by rw [wrap64s (by omega) (by omega)]; omega
  have e2 : IntKind.i64.wrap (14 * (sz : Int)) = (T : Int) := by rw [wrap64s (by omega) (by omega)]; omega
  have e3 : (w : Int).tmod (B : Int) = (v : Int) := by rw [hv]; rfl
  have hvT : v = T ↔ j = z := by rw [← hzj, hv, hw, hB, hT, show 2 * m = 16 * sz by omega, Nat.add_assoc]
  simp only
  rw [← hw]
  simp [e1, e2, e3, show ¬ (B : Int) = 0 by omega, show ¬ B = 0 by omega]
  refine WC_ndec (fun h => ?_) (fun h => ?_)
  · have hjl : j < z := by omega
    simp
    refine ⟨by omega, ⟨j + 1, by omega⟩, by simp; omega, ?_⟩
    refine cut_rw [0, 2] (by simp) rfl (by simp; omega) ?_
    have hfl : (b.map bv ++ AV.int IntKind.u8 128 :: List.replicate j (AV.int IntKind.u8 0)).take w = b.map bv ++ AV.int IntKind.u8 128 :: List.replicate j (AV.int IntKind.u8 0) := List.take_of_length_le (by simp; omega)
    rw [hfl]
    simp [List.replicate_succ']
  have hjz : j = z := hvT.1 (by omega)
  obtain ⟨A0, hA0⟩ : ∃ A0, A0 = b ++ 128 :: List.replicate z 0 := ⟨_, rfl⟩
  have hA0l : A0.length = w := by rw [hA0]; simp; omega
  have hA0m : b.map bv ++ AV.int IntKind.u8 128 :: List.replicate z (AV.int IntKind.u8 0) = A0.map bv := by rw [hA0]; simp
  subst hjz
  simp [hA0m]
  refine W_loop (X := { i : Nat // i ≤ 2 * sz }) (fun i => [(1, .list 1 md (b.map bv)), (2, .ptr 0 0), (5, .int .i64 sz), (6, .slice 1 1 0 (A0.length + i.1) none), (7, .int .i64 i.1)])
    (fun i => [some ⟨frm F, 109, true⟩, some ⟨(A0 ++ lnB m L i.1).map bv, 5, false⟩]) (fun i => 2 * sz - i.1) ⟨0, by omega⟩ retPost_le ?_ ?_
  · exact cut_w (by simp [hA0l, lnB])
  rintro ⟨i, hi⟩
  have e4 : IntKind.i64.wrap (2 * (sz : Int)) = ((2 * sz : Nat) : Int) := by rw [wrap64s (by omega) (by omega)]; omega
  obtain ⟨S2, hS2⟩ : ∃ S2, S2 = 2 * sz := ⟨_, rfl⟩
  rw [← hS2] at e4
  simp only
  simp [e4]
  refine WC_dec (fun h => ?_) (fun h => ?_)
  · obtain ⟨at', hat⟩ : ∃ a, a = m / 4 - 1 - i := ⟨_, rfl⟩
    have e5 : IntKind.i64.wrap (IntKind.i64.wrap ((S2 : Int) - 1) - (i : Int)) = (at' : Int) := by
      rw [wrap64s (n := (S2 : Int) - 1) (by omega) (by omega), wrap64s (by omega) (by omega)]; omega
    have hls := lnB_succ m L i
    rw [← hat] at hls
    simp [e4, e5]
    refine WC_dec (fun g => ?_) (fun g => ?_)
    · have g' : at' < 8 := by omega
      obtain ⟨N8, hN8⟩ : ∃ N8, N8 = 8 * L := ⟨_, rfl⟩
      obtain ⟨a8, ha8⟩ : ∃ a8, a8 = 8 * at' := ⟨_, rfl⟩
      have e6 : IntKind.u64.wrap (IntKind.i64.wrap (8 * (L : Int))) = (N8 : Int) := by
        rw [wrap64s (by omega) (by omega), show 8 * (L : Int) = ((8 * L : Nat) : Int) by simp, wrapu64]; omega
      have e7 : IntKind.i64.wrap (8 * (at' : Int)) = (a8 : Int) := by rw [wrap64s (by omega) (by omega)]; omega
      have e9 : IntKind.u8.wrap (((N8 : Nat) : Int).fdiv (2 ^ min a8 64)) = ((UInt8.ofNat (N8 / 2 ^ a8)).toNat : Int) := by
        rw [show min a8 64 = a8 by omega, shr_nat, wrap8_u8]
      rw [if_pos g', ← hN8, ← ha8] at hls
      simp [← hL, e6, e7, e9, IntKind.bits, lnB_len]
      refine ⟨by omega, ⟨i + 1, by omega⟩, by simp; omega, ?_⟩
      refine cut_rw [0, 2] (by simp) rfl (by simp [Nat.add_assoc, wrap64s (n := (i : Int) + 1) (by omega) (by omega)]) ?_
      have hfl : (A0.map bv ++ (lnB m L i).map bv).take (A0.length + i) = A0.map bv ++ (lnB m L i).map bv := List.take_of_length_le (by simp [lnB_len])
      rw [hfl]
      simp [hls]
    · have g' : ¬ at' < 8 := by omega
      rw [if_neg g'] at hls
      simp [lnB_len]
      refine ⟨by omega, ⟨i + 1, by omega⟩, by simp; omega, ?_⟩
      refine cut_rw [0, 2] (by simp) rfl (by simp [Nat.add_assoc, wrap64s (n := (i : Int) + 1) (by omega) (by omega)]) ?_
      have hfl : (A0.map bv ++ (lnB m L i).map bv).take (A0.length + i) = A0.map bv ++ (lnB m L i).map bv := List.take_of_length_le (by simp [lnB_len])
      rw [hfl]
      simp [hls]
  have hi2 : i = 2 * sz := by omega
  obtain ⟨ALL, hALL⟩ : ∃ ALL, ALL = A0 ++ lnB m L (2 * sz) := ⟨_, rfl⟩
  have hAt : ALL = b ++ tailB m b.length := by
    rw [hALL, hA0, show 2 * sz = m / 4 by omega, lnB_all L hm, hz, hL]
    simp [tailB]
  have hAm : A0.map bv ++ (lnB m L (2 * sz)).map bv = ALL.map bv := by rw [hALL]; simp
  have hAl : ALL.length = A0.length + 2 * sz := by rw [hALL]; simp [lnB_len]
  have hmod := tail_mod hm b.length
  have hAl2 : ALL.length = b.length + (tailB m b.length).length := by rw [hAt]; simp
  subst hi2
  simp [hAm]
  refine W_loop (X := { i : Nat // i ≤ 8 }) (fun i => [(2, .ptr 0 0), (5, .int .i64 sz), (6, .slice 1 1 0 ALL.length none), (9, .slice 1 2 0 i.1 none), (10, .int .i64 i.1)])
    (fun i => [some ⟨frm F, 109, true⟩, some ⟨ALL.map bv, 5, false⟩, some ⟨(F.h0.ws.take i.1).map wV, 47, false⟩]) (fun i => 8 - i.1) ⟨0, by omega⟩ retPost_le ?_ ?_
  · refine cut_trans (cut_ghost 9 1 47 (by simp) rfl rfl) (cut_w ?_)
    simp [hAl]
  rintro ⟨i, hi⟩
  simp only
  simp
  refine WC_dec (fun h => ?_) (fun h => ?_)
  · have h8 : i < 8 := by omega
    simp
    refine WO_callP [] rfl rfl fStart_spec (by simp) (by simp) ?_
    have hS : ∃ x, shaS[i]? = some x := ⟨_, List.getElem?_eq_getElem (by rw [shaS_len]; exact h8)⟩
    obtain ⟨x, hx⟩ := hS
    have hk := hF.h0 i h8
    rw [List.getD_eq_getElem?_getD, hx, Option.getD_some] at hk
    have hcs := fConst3_spec F hm x
    rw [hk] at hcs
    simp [shaS_len, h8, hx, nV]
    refine WO_callP [] rfl rfl hcs (by simp) (by simp) ?_
    simp
    refine ⟨by omega, ⟨i + 1, by omega⟩, by simp; omega, ?_⟩
    refine cut_rw [0, 1, 3] (by simp) rfl (by simp [wrap64s (n := (i : Int) + 1) (by omega) (by omega)]) ?_
    rw [List.take_of_length_le (show ((F.h0.ws.map wV).take i).length ≤ i by simp; omega), ← wsm_take F.h0 h8]
    simp
  have : i = 8 := by omega
  subst this
  simp [wsm_all]
  refine WO_callP [] rfl rfl fWords_spec (by simp) (by simp) ?_
  simp
  obtain ⟨NB, hNB⟩ : ∃ NB, NB = ALL.length / (2 * m) := ⟨_, rfl⟩
  have hAN : ALL.length = 2 * m * NB := by
    have h1 := Nat.mod_add_div ALL.length (2 * m)
    rw [hAl2, hmod] at h1
    rw [hNB, hAl2]; omega
  refine W_loop (X := { n : Nat // n ≤ NB }) (fun n => [(2, .ptr 0 0), (5, .int .i64 sz), (6, .slice 1 1 0 ALL.length none), (9, .slice 1 2 0 8 none), (11, .list 1 ⟨false, false, false⟩ (shaW.map (nV .u64))), (12, .int .i64 (2 * m * n.1 : Nat))])
    (fun n => [some ⟨frm F, 109, true⟩, some ⟨ALL.map bv, 5, false⟩, some ⟨(runB F n.1 F.h0 ALL).ws.map wV, 47, false⟩]) (fun n => NB - n.1) ⟨0, by omega⟩ retPost_le ?_ ?_
  · exact cut_w (by simp [hAl, runB])
  rintro ⟨n, hn⟩
  obtain ⟨at0, hat0⟩ : ∃ a, a = 2 * m * n := ⟨_, rfl⟩
  simp only
  rw [← hat0]
  simp
  refine WC_dec (fun h => ?_) (fun h => ?_)
  · have hnN : n < NB := by
      refine Nat.lt_of_mul_lt_mul_left (a := 2 * m) ?_
      rw [← hat0, ← hAN]; omega
    have hfit : at0 + 2 * m ≤ ALL.length := by
      rw [hat0, hAN, ← Nat.mul_succ]; exact Nat.mul_le_mul_left _ hnN
    simp
    obtain ⟨bk, hbk⟩ : ∃ bk, bk = (ALL.drop at0).take (2 * m) := ⟨_, rfl⟩
    have hbkl : bk.length = 2 * m := by rw [hbk]; simp; omega
    have hR := hF.R
    refine W_loop (X := { i : Nat // i ≤ F.R }) (fun i => [(2, .ptr 0 0), (5, .int .i64 sz), (6, .slice 1 1 0 ALL.length none), (9, .slice 1 2 0 8 none), (11, .list 1 ⟨false, false, false⟩ (shaW.map (nV .u64))), (12, .int .i64 at0), (13, .slice 1 3 0 i.1 none), (14, .int .i64 i.1)])
      (fun i => [some ⟨frm F, 109, true⟩, some ⟨ALL.map bv, 5, false⟩, some ⟨(runB F n F.h0 ALL).ws.map wV, 47, false⟩, some ⟨(wL F bk i.1).map wV, 47, false⟩]) (fun i => F.R - i.1) ⟨0, by omega⟩ retPost_le ?_ ?_
    · refine cut_trans (cut_ghost 13 1 47 (by simp) rfl rfl) (cut_w ?_)
      simp [wL]
    rintro ⟨i, hi⟩
    have hwl := wL_length F bk i
    simp only
    simp [frm_R]
    refine WC_dec (fun g => ?_) (fun g => ?_)
    · have hiR : i < F.R := by omega
      simp
      have hwn : ∀ (x : BitVec m), wL F bk (i + 1) = wL F bk i ++ [x] → (wL F bk (i + 1)).map wV = (wL F bk i).map wV ++ [.int .u64 (wn x : Nat)] := by
        intro x hx; rw [hx]; simp [wV]
      have hwx : wL F bk (i + 1) = wL F bk i ++ [nextW F bk (wL F bk i) i] := rfl
      have hm64 : m ≤ 64 := by omega
      have hmd : 2 ^ m ∣ 2 ^ 64 := Nat.pow_dvd_pow 2 hm64
      have hp64 : 2 ^ m ≤ 2 ^ 64 := Nat.pow_le_pow_right (by decide) hm64
      obtain ⟨x16, a16⟩ : ∃ x, x = (wL F bk i).getD (i - 16) 0 := ⟨_, rfl⟩
      obtain ⟨x15, a15⟩ : ∃ x, x = (wL F bk i).getD (i - 15) 0 := ⟨_, rfl⟩
      obtain ⟨x7, a7⟩ : ∃ x, x = (wL F bk i).getD (i - 7) 0 := ⟨_, rfl⟩
      obtain ⟨x2, a2⟩ : ∃ x, x = (wL F bk i).getD (i - 2) 0 := ⟨_, rfl⟩
      obtain ⟨X, hX⟩ : ∃ X, X = if i < 16 then beN ((bk.drop (sz * i)).take sz) else (((wn x16 + wn (smallT F.s0 x15)) % 2 ^ 64 + wn x7) % 2 ^ 64 + wn (smallT F.s1 x2)) % 2 ^ 64 := ⟨_, rfl⟩
      have hXb : ∀ k, beN ((bk.drop (sz * i)).take k) < 256 ^ k := fun k => Nat.lt_of_lt_of_le (beN_lt _) (Nat.pow_le_pow_right (by decide) (by simp; omega))
      have h256 : 256 ^ sz = 2 ^ m := by rcases hms with ⟨h1, h2⟩ | ⟨h1, h2⟩ <;> rw [h1, h2]
      have hXl : X < 2 ^ 64 := by
        rw [hX]; split
        · have := hXb sz; omega
        · exact Nat.mod_lt _ (by decide)
      have hXm : X % 2 ^ m = wn (nextW F bk (wL F bk i) i) := by
        rw [hX]; simp only [nextW, ← a16, ← a15, ← a7, ← a2, ← hsz]
        split
        · simp only [wn, BitVec.toNat_ofNat]
        · rw [wn_add, wn_add, wn_add, Nat.mod_mod_of_dvd _ hmd, Nat.add_mod, Nat.mod_mod_of_dvd _ hmd, Nat.add_mod ((wn x16 + wn (smallT F.s0 x15)) % 2 ^ 64), Nat.mod_mod_of_dvd _ hmd]
          simp only [Nat.add_mod, Nat.mod_mod]
      refine WC_joinQ [(2, .ptr 0 0), (5, .int .i64 sz), (6, .slice 1 1 0 ALL.length none), (9, .slice 1 2 0 8 none), (11, .list 1 ⟨false, false, false⟩ (shaW.map (nV .u64))), (12, .int .i64 at0), (13, .slice 1 3 0 i none), (14, .int .i64 i), (15, .int .u64 (X : Nat))]
        [some ⟨frm F, 109, true⟩, some ⟨ALL.map bv, 5, false⟩, some ⟨(runB F n F.h0 ALL).ws.map wV, 47, false⟩, some ⟨(wL F bk i).map wV, 47, false⟩] ?_ ?_
      · have hcut := fCut3_spec F hm X hXl
        rw [hXm] at hcut
        simp
        refine WO_callP [] rfl rfl hcut (by simp) (by simp) ?_
        simp [hwl]
        refine ⟨by omega, ⟨i + 1, by omega⟩, by simp; omega, ?_⟩
        refine cut_rw [0, 1, 2, 4] (by simp) rfl (by simp [wrap64s (n := (i : Int) + 1) (by omega) (by omega)]) ?_
        rw [List.take_of_length_le (show ((wL F bk i).map wV).length ≤ i by simp [hwl]), ← hwn _ hwx]
        simp
      intro k' hk'
      refine WC_dec (fun h16 => ?_) (fun h16 => ?_)
      · have h16' : i < 16 := by omega
        rw [if_pos h16'] at hX
        simp
        refine W_loop (X := { k : Nat // k ≤ sz }) (fun k => [(2, .ptr 0 0), (5, .int .i64 sz), (6, .slice 1 1 0 ALL.length none), (9, .slice 1 2 0 8 none), (11, .list 1 ⟨false, false, false⟩ (shaW.map (nV .u64))), (12, .int .i64 at0), (13, .slice 1 3 0 i none), (14, .int .i64 i), (15, .int .u64 (beN ((bk.drop (sz * i)).take k.1) : Nat)), (16, .int .i64 k.1)])
          (fun _ => [some ⟨frm F, 109, true⟩, some ⟨ALL.map bv, 5, false⟩, some ⟨(runB F n F.h0 ALL).ws.map wV, 47, false⟩, some ⟨(wL F bk i).map wV, 47, false⟩]) (fun k => sz - k.1) ⟨0, by omega⟩ retPost_le ?_ ?_
        · exact cut_w (by simp [beN])
        rintro ⟨k, hk⟩
        simp only
        simp
        refine WC_dec (fun u => ?_) (fun u => ?_)
        · obtain ⟨p, hp⟩ : ∃ p, p = i * sz := ⟨_, rfl⟩
          have hp2 : p ≤ 15 * sz := by rw [hp]; exact Nat.mul_le_mul_right _ (by omega)
          obtain ⟨q, hq⟩ : ∃ q, q = at0 + p + k := ⟨_, rfl⟩
          have e1 : IntKind.i64.wrap ((i : Int) * (sz : Int)) = (p : Int) := by
            rw [← Int.natCast_mul, ← hp, wrap64s (by omega) (by omega)]
          have e2 : IntKind.i64.wrap ((at0 : Int) + (p : Int)) = ((at0 + p : Nat) : Int) := by rw [wrap64s (by omega) (by omega)]; omega
          have e3 : IntKind.i64.wrap (((at0 + p : Nat) : Int) + (k : Int)) = (q : Int) := by rw [wrap64s (by omega) (by omega)]; omega
          obtain ⟨ap, hap⟩ : ∃ ap, ap = at0 + p := ⟨_, rfl⟩
          rw [← hap] at e2 e3
          have hqA : q < ALL.length := by omega
          have gq : ALL[q]? = some ALL[q] := by simp
          have hs : beN ((bk.drop (sz * i)).take (k + 1)) = beN ((bk.drop (sz * i)).take k) * 256 + ALL[q].toNat := by
            have hpi : sz * i = p := by rw [hp, Nat.mul_comm]
            rw [List.take_succ_eq_append_getElem (by simp; omega), beN_snoc, List.getElem_drop]
            congr 2
            simp only [hbk, List.getElem_take, List.getElem_drop]
            congr 1
            omega
          have hx := ALL[q].toNat_lt
          have hv := hXb k
          have hv2 : 256 ^ (k + 1) ≤ 2 ^ 64 := by rw [← Nat.pow_mul 2 8 (k + 1)]; exact Nat.pow_le_pow_right (by decide) (by omega)
          rw [Nat.pow_succ] at hv2
          have ev : IntKind.u64.wrap (IntKind.u64.wrap ((beN ((bk.drop (sz * i)).take k) : Nat) * 256) + (ALL[q].toNat : Nat)) = (beN ((bk.drop (sz * i)).take (k + 1)) : Nat) := by
            rw [hs]
            generalize beN ((bk.drop (sz * i)).take k) = y at *
            rw [show ((y : Int) * 256) = ((y * 256 : Nat) : Int) by simp, wrapu64, Nat.mod_eq_of_lt (by omega), ← Int.natCast_add, wrapu64, Nat.mod_eq_of_lt (by omega)]
          simp [e1, e2, e3, gq, ev, wrap_b64]
          refine ⟨hqA, ⟨k + 1, by omega⟩, by simp; omega, ?_⟩
          exact cut_w (by simp [wrap64s (n := (k : Int) + 1) (by omega) (by omega)])
        · have : k = sz := by omega
          subst this
          simp
          rw [hX] at hk'
          exact hk'
      · have h16' : ¬ i < 16 := by omega
        rw [if_neg h16'] at hX
        obtain ⟨j16, h16e⟩ : ∃ j, j = i - 16 := ⟨_, rfl⟩
        obtain ⟨j15, h15e⟩ : ∃ j, j = i - 15 := ⟨_, rfl⟩
        obtain ⟨j7, h7e⟩ : ∃ j, j = i - 7 := ⟨_, rfl⟩
        obtain ⟨j2, h2e⟩ : ∃ j, j = i - 2 := ⟨_, rfl⟩
        have f16 : IntKind.i64.wrap ((i : Int) - 16) = (j16 : Int) := by rw [wrap64s (by omega) (by omega)]; omega
        have f15 : IntKind.i64.wrap ((i : Int) - 15) = (j15 : Int) := by rw [wrap64s (by omega) (by omega)]; omega
        have f7 : IntKind.i64.wrap ((i : Int) - 7) = (j7 : Int) := by rw [wrap64s (by omega) (by omega)]; omega
        have f2 : IntKind.i64.wrap ((i : Int) - 2) = (j2 : Int) := by rw [wrap64s (by omega) (by omega)]; omega
        have get : ∀ (j : Nat) (x : BitVec m), j < i → x = (wL F bk i).getD j 0 → (wL F bk i)[j]? = some x := by
          intro j x hj hx
          rw [hx, List.getD_eq_getElem?_getD, List.getElem?_eq_getElem (by omega)]; rfl
        have b16 := get j16 x16 (by omega) (by rw [h16e]; exact a16)
        have b15 := get j15 x15 (by omega) (by rw [h15e]; exact a15)
        have b7 := get j7 x7 (by omega) (by rw [h7e]; exact a7)
        have b2 := get j2 x2 (by omega) (by rw [h2e]; exact a2)
        have sm0 := fSmall3_spec F hm x15 F.s0 hF.s0.1 hF.s0.2.1 hF.s0.2.2
        have sm1 := fSmall3_spec F hm x2 F.s1 hF.s1.1 hF.s1.2.1 hF.s1.2.2
        have au : ∀ a c : Nat, IntKind.u64.wrap ((a : Nat) + (c : Nat)) = ((a + c) % 2 ^ 64 : Nat) := fun a c => by rw [← Int.natCast_add, wrapu64]
        have s1 := au (wn x16) (wn (smallT F.s0 x15))
        obtain ⟨y1, hy1⟩ : ∃ y, y = (wn x16 + wn (smallT F.s0 x15)) % 2 ^ 64 := ⟨_, rfl⟩
        rw [← hy1] at s1 hX
        have s2 := au y1 (wn x7)
        obtain ⟨y2, hy2⟩ : ∃ y, y = (y1 + wn x7) % 2 ^ 64 := ⟨_, rfl⟩
        rw [← hy2] at s2 hX
        have s3 := au y2 (wn (smallT F.s1 x2))
        rw [← hX] at s3
        simp [f16, f15, f7, f2, b16, b15, b7, b2, hwl, wV, frm_s0, frm_s1]
        refine ⟨by omega, by omega, by omega, by omega, ?_⟩
        refine WO_callP [] rfl rfl sm0 (by simp [tV]) (by simp [b16, b7, b2, wV, frm_s1]) ?_
        simp [s1, s2]
        refine WO_callP [] rfl rfl sm1 (by simp [tV]) (by simp [b16, b7, b2, wV, frm_s1]) ?_
        simp [s3]
        exact hk'
    have hiR : i = F.R := by omega
    subst hiR
    obtain ⟨hs, hhs⟩ : ∃ hs, hs = runB F n F.h0 ALL := ⟨_, rfl⟩
    have hcomp : runB F (n + 1) F.h0 ALL = hs.add (rnds F (wL F bk F.R) hs F.R) := by rw [runB_succ, ← hat0, ← hbk, ← hhs]; rfl
    rw [← hhs]
    simp [wsm_all]
    refine W_loop (X := { i : Nat // i ≤ F.R }) (fun i => [(2, .ptr 0 0), (5, .int .i64 sz), (6, .slice 1 1 0 ALL.length none), (9, .slice 1 2 0 8 none), (11, .list 1 ⟨false, false, false⟩ (shaW.map (nV .u64))), (12, .int .i64 at0), (13, .slice 1 3 0 F.R none), (17, .list 1 ⟨false, false, false⟩ ((rnds F (wL F bk F.R) hs i.1).ws.map wV)), (18, .int .i64 i.1)])
      (fun i => [some ⟨frm F, 109, true⟩, some ⟨ALL.map bv, 5, false⟩, some ⟨hs.ws.map wV, 47, false⟩, some ⟨(wL F bk F.R).map wV, 47, false⟩]) (fun i => F.R - i.1) ⟨0, by omega⟩ retPost_le ?_ ?_
    · refine cut_trans (cut_frz 4 rfl) (cut_w ?_)
      simp [rnds, wsm_all]
    rintro ⟨i, hi⟩
    simp only
    simp [frm_R]
    refine WC_dec (fun g => ?_) (fun g => ?_)
    · have hiR : i < F.R := by omega
      have hm64 : m ≤ 64 := by omega
      obtain ⟨W, hW⟩ : ∃ W, W = wL F bk F.R := ⟨_, rfl⟩
      rw [← hW] at hwl hcomp ⊢
      obtain ⟨w, hw'⟩ : ∃ w, w = W.getD i 0 := ⟨_, rfl⟩
      have gw : W[i]? = some w := by rw [hw', List.getD_eq_getElem?_getD, List.getElem?_eq_getElem (by omega)]; rfl
      have hk80 : ∃ x, shaW[i]? = some x := ⟨_, List.getElem?_eq_getElem (by rw [shaW_len]; omega)⟩
      obtain ⟨kv, hkv⟩ := hk80
      have hkc := hF.k i hiR
      rw [List.getD_eq_getElem?_getD, hkv, Option.getD_some] at hkc
      have hcs := fConst3_spec F hm kv
      rw [hkc] at hcs
      obtain ⟨kk, hkk⟩ : ∃ kk, kk = F.k i := ⟨_, rfl⟩
      have hr : rnds F W hs (i + 1) = rnd F (F.k i) (W.getD i 0) (rnds F W hs i) := rfl
      rw [← hkk] at hcs hr
      rw [← hw'] at hr
      obtain ⟨⟨sa, sb, sc, sd, se, sf, sg, sh⟩, hS⟩ : ∃ st, st = rnds F W hs i := ⟨_, rfl⟩
      rw [← hS] at hr ⊢
      have andm : ∀ x y : BitVec m, bitI .and .u64 (wn x : Nat) (wn y : Nat) = (wn (x &&& y) : Nat) := fun x y => wx_and rfl hm64 x y
      have orm : ∀ x y : BitVec m, bitI .or .u64 (wn x : Nat) (wn y : Nat) = (wn (x ||| y) : Nat) := fun x y => wx_or rfl hm64 x y
      have au : ∀ a c : Nat, IntKind.u64.wrap ((a : Nat) + (c : Nat)) = ((a + c) % 2 ^ 64 : Nat) := fun a c => by rw [← Int.natCast_add, wrapu64]
      have hnr := not_raw se hm64
      obtain ⟨nse, hnse⟩ : ∃ v, v = (2 ^ 64 - 1) ^^^ wn se := ⟨_, rfl⟩
      have hcn := fCut3_spec F hm nse (by rw [hnse]; exact Nat.xor_lt_two_pow (by decide) (Nat.lt_of_lt_of_le (wn_lt se) (Nat.pow_le_pow_right (by decide) hm64)))
      rw [hnse, not_val hm64] at hcn
      rw [← hnse] at hcn hnr
      simp [St8.ws, wV, andm, hnr]
      refine WO_callP [] rfl rfl hcn (by simp) (by simp) ?_
      simp [andm, orm, ch_or, mj_or, frm_E, hkv, gw, nV, wV]
      obtain ⟨cE, hcE⟩ : ∃ x, x = bigT F.E se := ⟨_, rfl⟩
      obtain ⟨cA, hcA⟩ : ∃ x, x = bigT F.A sa := ⟨_, rfl⟩
      obtain ⟨ch, hch⟩ : ∃ x, x = (se &&& sf) ^^^ (~~~se &&& sg) := ⟨_, rfl⟩
      obtain ⟨mj, hmj⟩ : ∃ x, x = (sa &&& sb) ^^^ (sa &&& sc) ^^^ (sb &&& sc) := ⟨_, rfl⟩
      have hr2 : rnds F W hs (i + 1) = ⟨sh + cE + ch + kk + w + cA + mj, sa, sb, sc, sd + (sh + cE + ch + kk + w), se, sf, sg⟩ := by rw [hr, hcE, hcA, hch, hmj]; rfl
      have bE := fBig3_spec F hm se F.E hF.E.1 hF.E.2.1 hF.E.2.2
      have bA := fBig3_spec F hm sa F.A hF.A.1 hF.A.2.1 hF.A.2.2
      rw [← hcE] at bE
      rw [← hcA] at bA
      rw [← hch, ← hmj]
      have s1 := au (wn sh) (wn cE)
      obtain ⟨y1, hy1⟩ : ∃ y, y = (wn sh + wn cE) % 2 ^ 64 := ⟨_, rfl⟩
      rw [← hy1] at s1
      have s2 := au y1 (wn ch)
      obtain ⟨y2, hy2⟩ : ∃ y, y = (y1 + wn ch) % 2 ^ 64 := ⟨_, rfl⟩
      rw [← hy2] at s2
      have s3 := au y2 (wn kk)
      obtain ⟨y3, hy3⟩ : ∃ y, y = (y2 + wn kk) % 2 ^ 64 := ⟨_, rfl⟩
      rw [← hy3] at s3
      have s4 := au y3 (wn w)
      obtain ⟨y4, hy4⟩ : ∃ y, y = (y3 + wn w) % 2 ^ 64 := ⟨_, rfl⟩
      rw [← hy4] at s4
      have s5 := au (wn cA) (wn mj)
      obtain ⟨y5, hy5⟩ : ∃ y, y = (wn cA + wn mj) % 2 ^ 64 := ⟨_, rfl⟩
      rw [← hy5] at s5
      have s6 := au y4 y5
      obtain ⟨y6, hy6⟩ : ∃ y, y = (y4 + y5) % 2 ^ 64 := ⟨_, rfl⟩
      rw [← hy6] at s6
      have s7 := au (wn sd) y4
      obtain ⟨y7, hy7⟩ : ∃ y, y = (wn sd + y4) % 2 ^ 64 := ⟨_, rfl⟩
      rw [← hy7] at s7
      have c6 := fCut3_spec F hm y6 (by rw [hy6]; exact Nat.mod_lt _ (by decide))
      have c7 := fCut3_spec F hm y7 (by rw [hy7]; exact Nat.mod_lt _ (by decide))
      have v6 : y6 % 2 ^ m = wn (sh + cE + ch + kk + w + cA + mj) := by
        rw [hy6, hy5, hy4, hy3, hy2, hy1, sum_cut hm, wn_add, wn_add, wn_add, wn_add, wn_add, wn_add]
      have v7 : y7 % 2 ^ m = wn (sd + (sh + cE + ch + kk + w)) := by
        rw [hy7, hy4, hy3, hy2, hy1, sum_cut2 hm, wn_add, wn_add, wn_add, wn_add, wn_add]
      rw [v6] at c6
      rw [v7] at c7
      refine ⟨by rw [shaW_len]; omega, by omega, by omega, ?_⟩
      refine WO_callP [] rfl rfl bE (by simp [tV]) (by simp [hkv, gw, nV, wV]) ?_
      simp [s1, s2]
      refine WO_callP [] rfl rfl hcs (by simp) (by simp [hkv, gw, nV, wV]) ?_
      simp [s3, s4, frm_A]
      refine WO_callP [] rfl rfl bA (by simp [tV]) (by simp) ?_
      simp [s5, s6]
      refine WO_callP [] rfl rfl c6 (by simp) (by simp) ?_
      simp [s7]
      refine WO_callP [] rfl rfl c7 (by simp) (by simp) ?_
      simp
      refine ⟨⟨i + 1, by omega⟩, by simp; omega, ?_⟩
      exact cut_w (by simp [hr2, St8.ws, wV, wrap64s (n := (i : Int) + 1) (by omega) (by omega)])
    have hiR : i = F.R := by omega
    subst hiR
    obtain ⟨st, hst⟩ : ∃ st, st = rnds F (wL F bk F.R) hs F.R := ⟨_, rfl⟩
    rw [← hst] at hcomp ⊢
    simp
    refine W_loop (X := { i : Nat // i ≤ 8 }) (fun i => [(2, .ptr 0 0), (5, .int .i64 sz), (6, .slice 1 1 0 ALL.length none), (9, .slice 1 2 0 8 none), (11, .list 1 ⟨false, false, false⟩ (shaW.map (nV .u64))), (12, .int .i64 at0), (17, .list 1 ⟨false, false, false⟩ (st.ws.map wV)), (23, .int .i64 i.1)])
      (fun i => [some ⟨frm F, 109, true⟩, some ⟨ALL.map bv, 5, false⟩, some ⟨(hX i.1 hs st).map wV, 47, false⟩]) (fun i => 8 - i.1) ⟨0, by omega⟩ retPost_le ?_ ?_
    · exact cut_w (by simp [hX_zero])
    rintro ⟨i, hi⟩
    simp only
    simp
    refine WC_dec (fun g => ?_) (fun g => ?_)
    · have h8 : i < 8 := by omega
      have g1 := hX_at hs st h8
      have g2 := ws_at st h8
      have g3 := hX_set hs st h8
      have au : IntKind.u64.wrap ((wn (hs.at i) : Nat) + (wn (st.at i) : Nat)) = ((wn (hs.at i) + wn (st.at i)) % 2 ^ 64 : Nat) := by rw [← Int.natCast_add, wrapu64]
      obtain ⟨y, hy⟩ : ∃ y, y = (wn (hs.at i) + wn (st.at i)) % 2 ^ 64 := ⟨_, rfl⟩
      rw [← hy] at au
      have hc := fCut3_spec F hm y (by rw [hy]; exact Nat.mod_lt _ (by decide))
      rw [hy, sum_cut3 hm, ← wn_add] at hc
      rw [← hy] at hc
      obtain ⟨u, hu⟩ : ∃ u, u = wn (hs.at i + st.at i) := ⟨_, rfl⟩
      rw [← hu] at hc g3
      obtain ⟨p1, hp1⟩ : ∃ p1, p1 = hs.at i := ⟨_, rfl⟩
      obtain ⟨p2, hp2⟩ : ∃ p2, p2 = st.at i := ⟨_, rfl⟩
      rw [← hp1] at g1 au
      rw [← hp2] at g2 au
      have g1' : ∀ (h : i < (hX i hs st).length), (hX i hs st)[i] = p1 := fun h => by rw [List.getElem?_eq_getElem h] at g1; exact Option.some.inj g1
      have g2' : ∀ (h : i < st.ws.length), st.ws[i] = p2 := fun h => by rw [List.getElem?_eq_getElem h] at g2; exact Option.some.inj g2
      simp [g1', g2', wV, au, h8, g]
      refine WO_callP [] rfl rfl hc (by simp) (by simp) ?_
      simp [g3, h8, g]
      refine ⟨by omega, ⟨i + 1, by omega⟩, by simp; omega, ?_⟩
      exact cut_w (by simp [wrap64s (n := (i : Int) + 1) (by omega) (by omega)])
    have hi8 : i = 8 := by omega
    subst hi8
    have eAt : IntKind.i64.wrap ((at0 : Int) + IntKind.i64.wrap (16 * (sz : Int))) = ((2 * m * (n + 1) : Nat) : Int) := by
      rw [e1, Nat.mul_succ, ← hat0, wrap64s (by omega) (by omega)]; omega
    simp [hX_eight]
    refine ⟨⟨n + 1, by omega⟩, by simp; omega, ?_⟩
    simp at eAt
    exact cut_w (by simp [hcomp, eAt])
  have hnN : n = NB := by
    have h1 : ALL.length ≤ at0 := by omega
    rw [hAN, hat0] at h1
    have h2 := Nat.le_of_mul_le_mul_left h1 (by omega)
    omega
  subst hnN
  have hdg : dgst F b = dgB (runB F n F.h0 ALL) := by
    rw [dgst, hst, ← hAt, ← hNB]
  obtain ⟨S, hS⟩ : ∃ S, S = runB F n F.h0 ALL := ⟨_, rfl⟩
  rw [← hS] at hdg ⊢
  rw [hdg]
  simp
  refine W_loop (X := { i : Nat // i ≤ 8 }) (fun i => [(5, .int .i64 sz), (9, .slice 1 0 0 8 none), (24, .slice 1 1 0 (sz * i.1) none), (25, .int .i64 i.1)])
    (fun i => [some ⟨S.ws.map wV, 47, false⟩, some ⟨((dgB S).take (sz * i.1)).map bv, 5, false⟩]) (fun i => 8 - i.1) ⟨0, by omega⟩ retPost_le ?_ ?_
  · refine cut_trans (cut_ghost 24 1 5 (by simp) rfl rfl) ?_
    refine cut_rw [2, 3] (by simp) rfl (by simp) ?_
    simp
  rintro ⟨i, hi⟩
  simp only
  simp
  refine WC_dec (fun g => ?_) (fun g => ?_)
  · have h8 : i < 8 := by omega
    simp
    refine W_loop (X := { k : Nat // k ≤ sz }) (fun k => [(5, .int .i64 sz), (9, .slice 1 0 0 8 none), (24, .slice 1 1 0 (sz * i + k.1) none), (25, .int .i64 i), (26, .int .i64 ((sz : Int) - 1 - (k.1 : Int)))])
      (fun k => [some ⟨S.ws.map wV, 47, false⟩, some ⟨((dgB S).take (sz * i + k.1)).map bv, 5, false⟩]) (fun k => sz - k.1) ⟨0, by omega⟩ retPost_le ?_ ?_
    · exact cut_w (by simp [wrap64s (n := (sz : Int) - 1) (by omega) (by omega)])
    rintro ⟨k, hk⟩
    simp only
    simp
    refine WC_dec (fun u => ?_) (fun u => ?_)
    · have hks : k < sz := by omega
      obtain ⟨nn, hnn⟩ : ∃ nn, nn = sz - 1 - k := ⟨_, rfl⟩
      have f1 : (sz : Int) - 1 - (k : Int) = (nn : Int) := by omega
      obtain ⟨n8, hn8⟩ : ∃ n8, n8 = 8 * nn := ⟨_, rfl⟩
      have f2 : IntKind.i64.wrap (8 * (nn : Int)) = (n8 : Int) := by rw [wrap64s (by omega) (by omega)]; omega
      obtain ⟨p, hp⟩ : ∃ p, p = sz * i + k := ⟨_, rfl⟩
      have hpd : p / sz = i := by rw [hp, Nat.mul_add_div (by omega), Nat.div_eq_of_lt hks, Nat.add_zero]
      have hpm : p % sz = k := by rw [hp, Nat.mul_add_mod, Nat.mod_eq_of_lt hks]
      have hpl : p < m := by
        have : sz * i ≤ sz * 7 := Nat.mul_le_mul_left _ (by omega)
        omega
      have f3 : IntKind.u8.wrap (((wn (S.at i) : Nat) : Int).fdiv (2 ^ min n8 64)) = ((UInt8.ofNat (dgN S p)).toNat : Int) := by
        rw [show min n8 64 = n8 by omega, shr_nat, wrap8_u8]
        simp only [dgN, ← hsz, hpd, hpm, show m - 8 - 8 * k = n8 by omega]
        rw [UInt8.toNat_ofNat', UInt8.toNat_ofNat', Nat.mod_mod]
      have ht := dgB_take S hpl
      have g2 := ws_at S h8
      obtain ⟨p2, hp2⟩ : ∃ p2, p2 = S.at i := ⟨_, rfl⟩
      rw [← hp2] at g2 f3
      have g2' : ∀ (h : i < S.ws.length), S.ws[i] = p2 := fun h => by rw [List.getElem?_eq_getElem h] at g2; exact Option.some.inj g2
      have hdl : (dgB S).length = m := by simp [dgB]
      rw [← hp]
      simp [f1, f2, g2', wV, h8, f3, IntKind.bits]
      have htm := congrArg (List.map bv) ht
      simp at htm
      have f4 : IntKind.i64.wrap ((nn : Int) - 1) = (sz : Int) - 1 - ((k : Int) + 1) := by rw [wrap64s (by omega) (by omega)]; omega
      refine ⟨g, by rw [hdl]; omega, ⟨k + 1, by omega⟩, by simp; omega, ?_⟩
      refine cut_rw [0, 2] (by simp) rfl (by simp [f4, hp, Nat.add_assoc]) ?_
      rw [List.take_take, Nat.min_self, ← htm]
      simp [hp, Nat.add_assoc]
    · have : k = sz := by omega
      subst this
      simp
      refine ⟨⟨i + 1, by omega⟩, by simp; omega, ?_⟩
      exact cut_w (by simp [Nat.mul_succ, wrap64s (n := (i : Int) + 1) (by omega) (by omega)])
  have hi8 : i = 8 := by omega
  subst hi8
  have hdl : (dgB S).length = m := by simp [dgB]
  simp
  rw [List.take_of_length_le (by simp [hdl]; omega)]
  exact fin_sl 1 rfl (by simp [hdl]; omega) (by simp) (by simp)
end Go.Proofs.Ythgibibeoapfbaa
