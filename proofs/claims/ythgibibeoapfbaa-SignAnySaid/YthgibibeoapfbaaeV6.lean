/-
  Are points one? Roots.
-/
import Derived.Test.YthgibibeoapfbaaeV3
set_option linter.unusedSimpArgs false
set_option linter.unnecessarySimpa false
set_option linter.unusedVariables false
set_option linter.unusedSectionVars false
namespace Go.Proofs.Ythgibibeoapfbaa
open Go Go.Fw
attribute [local simp] bv cleanL_bv toBytes_bv ltL_bv atF_drop WS_at_bytes W_nil W_skip W_seq W_reg W_draw W_drawP W_kill W_keep W_block W_blk W_exit W_ret WX_blk WX_c WX_lp WX_li W_li W_condT W_condF W_cond WC_true WC_false
  WR_nil WR_cons WR_o1 WR_o2 o1_chk o2_chk WR_grd WG_tt WG_ff WG_tf WG_ft WG_none WS_some WS_ok1 WSr_no WSr_some WSr_ok1 WSr_at_bytes WH_some WHA_some chkF_cons chkF_nil chkE_some chkE_ok1 chkE_at evF WO_mv WO_pick WO_bin WO_isNil WO_eqA WO_un WO_convI WO_toStr WO_ofStr WO_build WO_buildF WO_load WO_nilCheck WO_fieldAddr WO_field WO_idxA WO_idxS
  WO_ixA WO_slS WO_slA WO_len WO_lenK WO_appF WO_extract WO_s2a WO_iface WO_min WO_max WO_alloc WO_box WO_buildO WO_store WO_appO WO_copy WO_makeS WO_allocA WO_makeA WO_cvt cvtF_slice WO_look lookF_map alAF mkAF WO_func bind1_v bind2_v bindH_v bindH2_v bindS_v okO_v pickO_t pickO_f
  Env.keep Env.get Env.set Env.del Env.dels Env.setO Env.opd Env.opds Env.opdO Env.parts intF aggF fillA splice cleanL AV.clean bndF fldF_one fldF_many toStrF boxF buildOF
  loadF_rptr loadF_rptrN atF_zero atF_succ blk_cons_zero blk_cons_succ loadF_p loadF_pN atB_some atBN_some retPost resL one
  okc_bool cells_bool notStr_bool okc_int cells_int notStr_int okc_str cells_str notStr_str okc_nil cells_nil notStr_nil okc_ptr cells_ptr notStr_ptr okc_rptr cells_rptr notStr_rptr okc_slice cells_slice notStr_slice 
  okc_list cells_list notStr_list okc_func cells_func notStr_func okc_nilFunc cells_nilFunc notStr_nilFunc okc_iface cells_iface notStr_iface okc_nilIface cells_nilIface notStr_nilIface okc_agg cells_agg notStr_agg 
  okc_tuple cells_tuple notStr_tuple lenF_slice lenF_list lenF_str faF_ptr faF_rptr idxSF_slice idxSF_list idxAF_ptr idxAF_rptr ixAF_many ixAF_one convF_int unF_neg unF_xor unF_not nilF_0nil nilF_0ptr nilF_0rptr nilF_1 
  nilF_2nil nilF_2f nilF_3nil nilF_3f binF_int binF_beq binF_bne binF_sadd binF_seq binF_sne sliceCells_list sliceCells_str sliceCells_slice cutC_some szAV_list szAV_str szAV_slice oneSl_list oneSl_slice slSF_sliceS 
  slSF_sliceN slSF_list slAF_rptr slAF_ptr appFF_list appOF_list appOF_sliceN appOF_sliceS storeF_ptr copyF_slice extF_tuple s2aF_slice s2aF_list nchkF_ptr nchkF_rptr nchkF_f mmF_int ofStrF_str mkSF_int eqAF_agg
attribute [local irreducible] W WX WR WO WS WSr WH WHA WG WC FSpec
attribute [local simp] lendAll
attribute [local congr] W_cg WR_cg WO_cg WS_cg WSr_cg WH_cg WHA_cg WG_cg WC_cg WX_cg
attribute [local simp] Env.has AV.wkr wkrL AV.wkr_refl wkrL_refl AV.ltI ltL leHW hasW Env.lt AV.ids idsL AV.sub subL AV.ren AV.frz frzS frzP frzE frzL Heap.frz Blk.frz Blk.ren renL rnS rnP hasR leR idsL_bv subL_bv
attribute [local simp] cleanL_take cleanL_drop ltL_take ltL_drop idsL_take idsL_drop subL_take subL_drop cleanL_append ltL_append idsL_append subL_append
attribute [local simp] renE mvN mvH
attribute [local simp] fwd backH putL bwd
attribute [local simp] u8i u8e List.idxOf_cons
attribute [local simp] hasRW leRW
attribute [local simp] WS_at_map WSr_at_map loadWP splice_full Int.natCast_inj q17_d q17_t q17_t0 q17_d34 q17_t51 q17_s0 q17_s17 q17_s34
theorem hk17 (n : Nat) : hasK [.i64, .i64, .i64, .i64, .i64, .i64, .i64, .i64, .i64, .i64, .i64, .i64, .i64, .i64, .i64, .i64, .i64] (q17 n) = true := hasK_q17 n
attribute [local simp] hk17
theorem bq (u v : Fp) : (decide (wd (fv u) 0 = wd (fv v) 0) && (decide (wd (fv u) 1 = wd (fv v) 1) && (decide (wd (fv u) 2 = wd (fv v) 2) && decide (wd (fv u) 3 = wd (fv v) 3)))) = decide (u = v) := by
  rw [← Bool.decide_and, ← Bool.decide_and, ← Bool.decide_and]
  exact decide_eq_decide.2 (by rw [wdq])
def sameE (p q : Cv.EP Fp) : Bool := decide ((wholeE p).x * (wholeE q).z = (wholeE q).x * (wholeE p).z) && decide ((wholeE p).y * (wholeE q).z = (wholeE q).y * (wholeE p).z)
set_option maxRecDepth 100000 in
set_option maxHeartbeats 2000000 in
theorem fCvSame_spec (p q : Cv.EP Fp) : FSpec Try.prog 36 [.agg (ptC p), .agg (ptC q)] [] (.bool (sameE p q)) [] := by
  have h1 := fCvWhole_spec p
  have h2 := fCvWhole_spec q
  unfold sameE
  generalize wholeE p = a at *
  generalize wholeE q = b at *
  simp only [ptC] at h1 h2 ⊢
  have m1 := fMul2 a.x b.z ⟨false, true, false⟩
  have m2 := fMul2 b.x a.z ⟨false, true, false⟩
  have m3 := fMul2 a.y b.z ⟨false, true, false⟩
  have m4 := fMul2 b.y a.z ⟨false, true, false⟩
  generalize a.x * b.z = u1 at *
  generalize b.x * a.z = u2 at *
  generalize a.y * b.z = u3 at *
  generalize b.y * a.z = u4 at *
  have k1 := bq u1 u2
  have k2 := bq u3 u4
  refine FSpec.of_W fCvSame_low (by simp) ?_
  simp only [initEnv]
  simp [q4]
  refine WO_callP [] rfl rfl h1 (by simp [q4]) (by simp [q4]) ?_
  simp [q4]
  refine WO_callP [] rfl rfl h2 (by simp [q4]) (by simp [q4]) ?_
  simp [q4]
  refine WO_callP [] rfl rfl m1 (by simp [q4]) (by simp [q4]) ?_
  simp [q4]
  refine WO_callP [] rfl rfl m2 (by simp [q4]) (by simp [q4]) ?_
  simp [q4, hasK, ints, k1]
  by_cases c1 : u1 = u2
  · simp [c1]
    refine WO_callP [] rfl rfl m3 (by simp [q4]) (by simp [q4]) ?_
    simp [q4]
    refine WO_callP [] rfl rfl m4 (by simp [q4]) (by simp [q4]) ?_
    simp [q4, hasK, ints, k2]
    exact fin_W (by simp)
  · simp [c1]
    exact fin_W (by simp)
def sameR (p q : Cv.RP Fp) : Bool := decide (p.x * q.z = q.x * p.z) && decide (p.y * q.z = q.y * p.z)
set_option maxHeartbeats 2000000 in
theorem fRCvSame_spec (p q : Cv.RP Fp) : FSpec Try.prog 37 [.agg (rpC p), .agg (rpC q)] [] (.bool (sameR p q)) [] := by
  obtain ⟨x1, y1, z1⟩ := p
  obtain ⟨x2, y2, z2⟩ := q
  unfold sameR
  simp only [rpC]
  have m1 := rMul x1 z2
  have m2 := rMul x2 z1
  have m3 := rMul y1 z2
  have m4 := rMul y2 z1
  generalize x1 * z2 = u1 at *
  generalize x2 * z1 = u2 at *
  generalize y1 * z2 = u3 at *
  generalize y2 * z1 = u4 at *
  have i1 : (ints (q17 (fv u1)) = ints (q17 (fv u2))) = (u1 = u2) := by rw [ints_q17 (fv_255 _) (fv_255 _)]; exact propext fv_inj
  have i2 : (ints (q17 (fv u3)) = ints (q17 (fv u4))) = (u3 = u4) := by rw [ints_q17 (fv_255 _) (fv_255 _)]; exact propext fv_inj
  refine FSpec.of_W fRCvSame_low (by simp) ?_
  simp only [initEnv]
  simp
  refine WO_callP [] rfl rfl m1 (by simp) (by simp) ?_
  simp
  refine WO_callP [] rfl rfl m2 (by simp) (by simp) ?_
  simp [i1]
  by_cases c1 : u1 = u2
  · simp [c1]
    refine WO_callP [] rfl rfl m3 (by simp) (by simp) ?_
    simp
    refine WO_callP [] rfl rfl m4 (by simp) (by simp) ?_
    simp [i2]
    exact fin_W (by simp)
  · simp [c1]
    exact fin_W (by simp)
/-- The power of a number. -/
theorem rPow (x : Fp) (e : Nat) (he : e < 2 ^ 256) : FSpec Try.prog 118 [.agg (q17 (fv x)), .agg (q4 e)] [] (.agg (q17 (fv (toF (fv x ^ e % p25))))) [] := by
  have h := fQPower_spec (fv x) e (fv_lt x) he
  rw [toF_lt (pow_lt _ _ _ p25_pos)]
  exact h
theorem rootR_fv (x : Fp) : ∃ r i : Fp, fv r = pwm p25 (fv x) 256 ((p25 + 3) / 8) ∧ fv i = rootI ∧ r = toF (fv x ^ ((p25 + 3) / 8) % p25) ∧ i = toF (fv (toF 2) ^ ((p25 - 1) / 4) % p25) ∧ toF (rootR (fv x)) = if r * r = x then r else r * i := by
  have h1 : pwm p25 (fv x) 256 ((p25 + 3) / 8) = fv x ^ ((p25 + 3) / 8) % p25 := pwm_eq _ _ _ _ (by decide +kernel)
  have h2 : pwm p25 (fv (toF 2)) 256 ((p25 - 1) / 4) = fv (toF 2) ^ ((p25 - 1) / 4) % p25 := pwm_eq _ _ _ _ (by decide +kernel)
  have h3 : pwm p25 (fv (toF 2)) 256 ((p25 - 1) / 4) = rootI := by rw [fv_toF]; decide +kernel
  obtain ⟨e1, he1⟩ : ∃ e, e = (p25 + 3) / 8 := ⟨_, rfl⟩
  obtain ⟨e2, he2⟩ : ∃ e, e = (p25 - 1) / 4 := ⟨_, rfl⟩
  have hlt := pow_lt p25 (fv x) e1 p25_pos
  have hlt2 := pow_lt p25 (fv (toF 2)) e2 p25_pos
  unfold rootR
  rw [← he1] at h1 ⊢
  rw [← he2] at h2 h3 ⊢
  rw [h1]
  obtain ⟨v, hv⟩ : ∃ v, v = fv x ^ e1 % p25 := ⟨_, rfl⟩
  rw [← hv] at hlt ⊢
  rw [← h2, h3]
  refine ⟨toF v, toF rootI, toF_lt hlt, toF_lt rootI_lt, rfl, rfl, ?_⟩
  have hc : (v * v % p25 = fv x) = (toF v * toF v = x) := by
    rw [← fv_inj, fv_mul, toF_lt hlt]
  by_cases c : v * v % p25 = fv x
  · rw [if_pos c, if_pos (hc ▸ c)]
  · rw [if_neg c, if_neg (fun z => c (hc.symm ▸ z))]
    apply fv_inj.1
    rw [fv_toF, fv_mul, toF_lt hlt, toF_lt rootI_lt, Nat.mod_mod]
set_option maxRecDepth 100000 in
set_option maxHeartbeats 2000000 in
theorem fRCvRoot_spec (x : Fp) : FSpec Try.prog 79 [.agg (q17 (fv x))] [] (.agg (q17 (fv (toF (rootR (fv x)))))) [] := by
  obtain ⟨r, i, hr, hi, hr2, hi2, hR⟩ := rootR_fv x
  have h1 := rPow x ((p25 + 3) / 8) (by decide +kernel)
  have h2 := rPow (toF 2) ((p25 - 1) / 4) (by decide +kernel)
  rw [← hr2] at h1
  rw [← hi2] at h2
  rw [hR]
  have hs := rSmall 2 (by decide)
  have m1 := rMul r r
  have m2 := rMul r i
  have hq1 : q4 ((p25 + 3) / 8) = [.int .u64 18446744073709551614, .int .u64 18446744073709551615, .int .u64 18446744073709551615, .int .u64 1152921504606846975] := by
    simp only [q4, show wd ((p25 + 3) / 8) 0 = 18446744073709551614 by decide +kernel, show wd ((p25 + 3) / 8) 1 = 18446744073709551615 by decide +kernel, show wd ((p25 + 3) / 8) 2 = 18446744073709551615 by decide +kernel, show wd ((p25 + 3) / 8) 3 = 1152921504606846975 by decide +kernel]
    rfl
  have hq2 : q4 ((p25 - 1) / 4) = [.int .u64 18446744073709551611, .int .u64 18446744073709551615, .int .u64 18446744073709551615, .int .u64 2305843009213693951] := by
    simp only [q4, show wd ((p25 - 1) / 4) 0 = 18446744073709551611 by decide +kernel, show wd ((p25 - 1) / 4) 1 = 18446744073709551615 by decide +kernel, show wd ((p25 - 1) / 4) 2 = 18446744073709551615 by decide +kernel, show wd ((p25 - 1) / 4) 3 = 2305843009213693951 by decide +kernel]
    rfl
  rw [hq1] at h1
  rw [hq2] at h2
  clear hq1 hq2 hr2 hi2 hR hr hi
  generalize toF 2 = two at *
  have i1 : (ints (q17 (fv (r * r))) = ints (q17 (fv x))) = (r * r = x) := by rw [ints_q17 (fv_255 _) (fv_255 _)]; exact propext fv_inj
  refine FSpec.of_W fRCvRoot_low (by simp) ?_
  simp only [initEnv]
  simp
  refine WO_callP [] rfl rfl h1 (by simp) (by simp) ?_
  simp
  refine WO_callP [] rfl rfl m1 (by simp) (by simp) ?_
  simp [i1]
  by_cases c : r * r = x
  · simp [c]
    exact fin_W (by simp)
  · simp [c]
    refine WO_callP [] rfl rfl hs (by simp) (by simp) ?_
    simp
    refine WO_callP [] rfl rfl h2 (by simp) (by simp) ?_
    simp
    refine WO_callP [] rfl rfl m2 (by simp) (by simp) ?_
    simp
    exact fin_W (by simp)
end Go.Proofs.Ythgibibeoapfbaa
