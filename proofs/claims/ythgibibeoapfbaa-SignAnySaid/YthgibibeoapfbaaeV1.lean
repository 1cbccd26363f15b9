/-
  Texts that belong together.
-/
import Derived.Test.YthgibibeoapfbaaE2
import Derived.Test.YthgibibeoapfbaaeKV
set_option linter.unusedSimpArgs false
set_option linter.unnecessarySimpa false
set_option linter.unusedVariables false
set_option linter.unusedSectionVars false
/-
  Sums of points.
-/
namespace Go.Proofs.Ythgibibeoapfbaa
open Go Go.Fw
attribute [local simp] bv cleanL_bv toBytes_bv ltL_bv atF_drop WS_at_bytes W_nil W_skip W_seq W_reg W_draw W_drawP W_kill W_keep W_block W_blk W_exit W_ret WX_blk WX_c WX_lp WX_li W_li W_condT W_condF W_cond WC_true WC_false
  WR_nil WR_cons WR_o1 WR_o2 o1_chk o2_chk WR_grd WG_tt WG_ff WG_tf WG_ft WG_none WS_some WS_ok1 WSr_no WSr_some WSr_ok1 WSr_at_bytes WH_some WHA_some chkF_cons chkF_nil chkE_some chkE_ok1 chkE_at evF WO_mv WO_pick WO_bin WO_isNil WO_eqA WO_un WO_convI WO_toStr WO_ofStr WO_build WO_buildF WO_load WO_nilCheck WO_fieldAddr WO_field WO_idxA WO_idxS
  WO_ixA WO_slS WO_slA WO_len WO_lenK WO_appF WO_extract WO_s2a WO_iface WO_min WO_max WO_alloc WO_box WO_buildO WO_store WO_appO WO_copy WO_makeS WO_allocA WO_makeA WO_cvt cvtF_slice WO_look lookF_map alAF mkAF WO_func bind1_v bind2_v bindH_v bindH2_v bindS_v okO_v pickO_t pickO_f
  Env.keep Env.get Env.set Env.del Env.dels Env.setO Env.opd Env.opds Env.opdO Env.parts intF aggF fillA splice cleanL AV.clean bndF fldF_one fldF_many toStrF boxF buildOF
  loadF_rptr loadF_rptrN atF_zero atF_succ blk_cons_zero blk_cons_succ loadF_p loadF_pN atB_some atBN_some retPost resL one
  okc_bool cells_bool notStr_bool okc_int cells_int notStr_int okc_str cells_str notStr_str okc_nil cells_nil notStr_nil okc_ptr cells_ptr notStr_ptr okc_rptr cells_rptr notStr_rptr okc_slice cells_slice notStr_slice 
  okc_list cells_list notStr_list okc_func cells_func notStr_func okc_nilFunc cells_nilFunc notStr_nilFunc okc_iface cells_iface notStr_iface okc_nilIface cells_nilIface notStr_nilIface okc_agg cells_agg notStr_agg 
  okc_tuple cells_tuple notStr_tuple lenF_slice lenF_list lenF_str faF_ptr faF_rptr idxSF_slice idxSF_list idxAF_ptr idxAF_rptr ixAF_many ixAF_one convF_int unF_neg unF_xor unF_not nilF_0nil nilF_0ptr nilF_0rptr nilF_1 
  nilF_2nil nilF_2f nilF_3nil nilF_3f binF_int binF_beq binF_bne binF_sadd binF_seq binF_sne sliceCells_list sliceCells_str sliceCells_slice cutC_some szAV_list szAV_str szAV_slice oneSl_list oneSl_slice slSF_sliceS 
  slSF_sliceN slSF_list slAF_rptr slAF_ptr appFF_list appOF_list appOF_sliceN appOF_sliceS storeF_ptr copyF_slice extF_tuple s2aF_slice s2aF_list nchkF_ptr nchkF_rptr nchkF_f mmF_int ofStrF_str mkSF_int eqAF_agg
attribute [local irreducible] W WX WR WO WS WSr WH WHA WG WC FSpec
attribute [local simp] lendAll
attribute [local congr] W_cg WR_cg WO_cg WS_cg WSr_cg WH_cg WHA_cg WG_cg WC_cg WX_cg
attribute [local simp] Env.has AV.wkr wkrL AV.wkr_refl wkrL_refl AV.ltI ltL leHW hasW Env.lt AV.ids idsL AV.sub subL AV.ren AV.frz frzS frzP frzE frzL Heap.frz Blk.frz Blk.ren renL rnS rnP hasR leR idsL_bv subL_bv
attribute [local simp] cleanL_take cleanL_drop ltL_take ltL_drop idsL_take idsL_drop subL_take subL_drop cleanL_append ltL_append idsL_append subL_append
attribute [local simp] renE mvN mvH
attribute [local simp] fwd backH putL bwd
attribute [local simp] u8i u8e List.idxOf_cons
attribute [local simp] hasRW leRW
attribute [local simp] WS_at_map WSr_at_map loadWP splice_full Int.natCast_inj
theorem fv_255 (x : Fp) : fv x < 2 ^ 255 := Nat.lt_of_lt_of_le (fv_lt x) (by decide)
theorem fMul2 (x y : Fp) (md : Md) : FSpec Try.prog 63 [.list 4 md (q4 (fv x) ++ q4 (fv y))] [] (.agg (q4 (fv (x * y)))) [] := by
  have h := fFdMul_spec [fv x, fv y] md (by intro z hz; simp at hz; rcases hz with rfl | rfl <;> exact fv_255 _) (by simp)
  rw [show mulP [fv x, fv y] = fv (x * y) by rw [fv_mul]; show (1 * fv x % p25) * fv y % p25 = _; rw [Nat.one_mul, Nat.mod_eq_of_lt (fv_lt x)]] at h
  exact h
theorem fMul3 (x y z : Fp) (md : Md) : FSpec Try.prog 63 [.list 4 md (q4 (fv x) ++ (q4 (fv y) ++ q4 (fv z)))] [] (.agg (q4 (fv (x * y * z)))) [] := by
  have h := fFdMul_spec [fv x, fv y, fv z] md (by intro w hz; simp at hz; rcases hz with rfl | rfl | rfl <;> exact fv_255 _) (by simp)
  rw [show mulP [fv x, fv y, fv z] = fv (x * y * z) by rw [fv_mul, fv_mul]; show (1 * fv x % p25) * fv y % p25 * fv z % p25 = _; rw [Nat.one_mul, Nat.mod_eq_of_lt (fv_lt x)]] at h
  exact h
theorem fMul4 (x y z w : Fp) (md : Md) : FSpec Try.prog 63 [.list 4 md (q4 (fv x) ++ (q4 (fv y) ++ (q4 (fv z) ++ q4 (fv w))))] [] (.agg (q4 (fv (x * y * z * w)))) [] := by
  have h := fFdMul_spec [fv x, fv y, fv z, fv w] md (by intro w hz; simp at hz; rcases hz with rfl | rfl | rfl | rfl <;> exact fv_255 _) (by simp)
  rw [show mulP [fv x, fv y, fv z, fv w] = fv (x * y * z * w) by rw [fv_mul, fv_mul, fv_mul]; show (1 * fv x % p25) * fv y % p25 * fv z % p25 * fv w % p25 = _; rw [Nat.one_mul, Nat.mod_eq_of_lt (fv_lt x)]] at h
  exact h
theorem fAdd2 (x y : Fp) (md : Md) : FSpec Try.prog 65 [.list 4 md (q4 (fv x) ++ q4 (fv y))] [] (.agg (q4 (fv (x + y)))) [] := by
  have h := fFdAdd_spec [fv x, fv y] md (by intro z hz; simp at hz; rcases hz with rfl | rfl <;> exact fv_255 _) (by simp)
  rw [show [fv x, fv y].sum % p25 = fv (x + y) by rw [fv_add]; show (fv x + (fv y + 0)) % p25 = _; rfl] at h
  exact h
theorem fSub2 (x y : Fp) : FSpec Try.prog 64 [.agg (q4 (fv x)), .agg (q4 (fv y))] [] (.agg (q4 (fv (x - y)))) [] := by
  have h := fFdSub_spec (fv x) (fv y) (fv_lt x) (fv_lt y)
  rw [show subP (fv x) (fv y) = fv (x - y) from (fv_sub x y).symm] at h
  exact h
theorem fNeg1 (x : Fp) : FSpec Try.prog 69 [.agg (q4 (fv x))] [] (.agg (q4 (fv (-x)))) [] := by
  rw [fv_neg]; exact fFdNeg_spec (fv x) (fv_lt x)
theorem fInv1 (x : Fp) : FSpec Try.prog 67 [.agg (q4 (fv x))] [] (.agg (q4 (fv (invF x)))) [] := by
  rw [fv_invF]; exact fFdInvert_spec (fv x) (fv_lt x)
theorem fv_two : fv (2 : Fp) = 2 := by
  show 2 % p25 = 2
  exact Nat.mod_eq_of_lt (by decide)
theorem fSmall1 : FSpec Try.prog 62 [.int .u64 1] [] (.agg (q4 (fv 1))) [] := by
  rw [fv_one]; exact fFdSmall_spec 1 (by decide)
theorem fSmall2 : FSpec Try.prog 62 [.int .u64 2] [] (.agg (q4 (fv 2))) [] := by
  rw [fv_two]; exact fFdSmall_spec 2 (by decide)
theorem fCvD_spec : FSpec Try.prog 66 [] [] (.agg (q4 (fv (toF dP)))) [] := by
  rw [toF_lt dP_lt]
  refine FSpec.of_W fCvD_low (by simp) ?_
  simp only [initEnv]
  simp
  exact fin_W (by simp [q4, show wd dP 0 = 8496970652267935907 by decide +kernel, show wd dP 1 = 31536524315187371 by decide +kernel, show wd dP 2 = 10144147576115030168 by decide +kernel, show wd dP 3 = 5909686906226998899 by decide +kernel])
/-- A point's cells. -/
def ptC (p : Cv.EP Fp) : List AV := q4 (fv p.x) ++ (q4 (fv p.y) ++ (q4 (fv p.z) ++ q4 (fv p.t)))
set_option maxRecDepth 100000 in
set_option maxHeartbeats 2000000 in
theorem fCvSum_spec (p q : Cv.EP Fp) : FSpec Try.prog 85 [.agg (ptC p), .agg (ptC q)] [] (.agg (ptC (Cv.sumE (toF dP) p q))) [] := by
  obtain ⟨x1, y1, z1, t1⟩ := p
  obtain ⟨x2, y2, z2, t2⟩ := q
  simp only [ptC, Cv.sumE]
  have hD := fCvD_spec
  generalize toF dP = d at *
  refine FSpec.of_W fCvSum_low (by simp) ?_
  simp only [initEnv]
  simp [q4]
  refine WO_callQ rfl (fSub2 y1 x1) (by simp [q4]) ?_
  simp [q4]
  refine WO_callQ rfl (fSub2 y2 x2) (by simp [q4]) ?_
  simp [q4]
  refine WO_callQ rfl (fMul2 (y1 - x1) (y2 - x2) ⟨false, true, false⟩) (by simp [q4]) ?_
  generalize (y1 - x1) * (y2 - x2) = a
  simp [q4]
  refine WO_callQ rfl (fAdd2 y1 x1 ⟨false, true, false⟩) (by simp [q4]) ?_
  simp [q4]
  refine WO_callQ rfl (fAdd2 y2 x2 ⟨false, true, false⟩) (by simp [q4]) ?_
  simp [q4]
  refine WO_callQ rfl (fMul2 (y1 + x1) (y2 + x2) ⟨false, true, false⟩) (by simp [q4]) ?_
  generalize (y1 + x1) * (y2 + x2) = b
  simp [q4]
  refine WO_callQ rfl (hD) (by simp [q4]) ?_
  simp [q4]
  refine WO_callQ rfl (fSmall2) (by simp [q4]) ?_
  simp [q4]
  refine WO_callQ rfl (fMul4 t1 t2 d 2 ⟨false, true, false⟩) (by simp [q4]) ?_
  generalize t1 * t2 * d * 2 = c
  simp [q4]
  refine WO_callQ rfl (fSmall2) (by simp [q4]) ?_
  simp [q4]
  refine WO_callQ rfl (fMul3 z1 z2 2 ⟨false, true, false⟩) (by simp [q4]) ?_
  generalize z1 * z2 * 2 = z
  simp [q4]
  refine WO_callQ rfl (fSub2 b a) (by simp [q4]) ?_
  simp [q4]
  refine WO_callQ rfl (fSub2 z c) (by simp [q4]) ?_
  simp [q4]
  refine WO_callQ rfl (fAdd2 z c ⟨false, true, false⟩) (by simp [q4]) ?_
  simp [q4]
  refine WO_callQ rfl (fAdd2 b a ⟨false, true, false⟩) (by simp [q4]) ?_
  simp [q4]
  refine WO_callP [] rfl rfl (fMul2 (b - a) (z - c) ⟨false, true, false⟩) (by simp [q4]) (by simp [q4]) ?_
  simp [q4]
  refine WO_callP [] rfl rfl (fMul2 (z + c) (b + a) ⟨false, true, false⟩) (by simp [q4]) (by simp [q4]) ?_
  simp [q4]
  refine WO_callP [] rfl rfl (fMul2 (z - c) (z + c) ⟨false, true, false⟩) (by simp [q4]) (by simp [q4]) ?_
  simp [q4]
  refine WO_callP [] rfl rfl (fMul2 (b - a) (b + a) ⟨false, true, false⟩) (by simp [q4]) (by simp [q4]) ?_
  simp [q4]
  exact fin_W (by simp [q4])
end Go.Proofs.Ythgibibeoapfbaa

/-
  Bits of numbers.
-/
namespace Go.Proofs.Ythgibibeoapfbaa
open Go Go.Fw
attribute [local simp] bv cleanL_bv toBytes_bv ltL_bv atF_drop WS_at_bytes W_nil W_skip W_seq W_reg W_draw W_drawP W_kill W_keep W_block W_blk W_exit W_ret WX_blk WX_c WX_lp WX_li W_li W_condT W_condF W_cond WC_true WC_false
  WR_nil WR_cons WR_o1 WR_o2 o1_chk o2_chk WR_grd WG_tt WG_ff WG_tf WG_ft WG_none WS_some WS_ok1 WSr_no WSr_some WSr_ok1 WSr_at_bytes WH_some WHA_some chkF_cons chkF_nil chkE_some chkE_ok1 chkE_at evF WO_mv WO_pick WO_bin WO_isNil WO_eqA WO_un WO_convI WO_toStr WO_ofStr WO_build WO_buildF WO_load WO_nilCheck WO_fieldAddr WO_field WO_idxA WO_idxS
  WO_ixA WO_slS WO_slA WO_len WO_lenK WO_appF WO_extract WO_s2a WO_iface WO_min WO_max WO_alloc WO_box WO_buildO WO_store WO_appO WO_copy WO_makeS WO_allocA WO_makeA WO_cvt cvtF_slice WO_look lookF_map alAF mkAF WO_func bind1_v bind2_v bindH_v bindH2_v bindS_v okO_v pickO_t pickO_f
  Env.keep Env.get Env.set Env.del Env.dels Env.setO Env.opd Env.opds Env.opdO Env.parts intF aggF fillA splice cleanL AV.clean bndF fldF_one fldF_many toStrF boxF buildOF
  loadF_rptr loadF_rptrN atF_zero atF_succ blk_cons_zero blk_cons_succ loadF_p loadF_pN atB_some atBN_some retPost resL one
  okc_bool cells_bool notStr_bool okc_int cells_int notStr_int okc_str cells_str notStr_str okc_nil cells_nil notStr_nil okc_ptr cells_ptr notStr_ptr okc_rptr cells_rptr notStr_rptr okc_slice cells_slice notStr_slice 
  okc_list cells_list notStr_list okc_func cells_func notStr_func okc_nilFunc cells_nilFunc notStr_nilFunc okc_iface cells_iface notStr_iface okc_nilIface cells_nilIface notStr_nilIface okc_agg cells_agg notStr_agg 
  okc_tuple cells_tuple notStr_tuple lenF_slice lenF_list lenF_str faF_ptr faF_rptr idxSF_slice idxSF_list idxAF_ptr idxAF_rptr ixAF_many ixAF_one convF_int unF_neg unF_xor unF_not nilF_0nil nilF_0ptr nilF_0rptr nilF_1 
  nilF_2nil nilF_2f nilF_3nil nilF_3f binF_int binF_beq binF_bne binF_sadd binF_seq binF_sne sliceCells_list sliceCells_str sliceCells_slice cutC_some szAV_list szAV_str szAV_slice oneSl_list oneSl_slice slSF_sliceS 
  slSF_sliceN slSF_list slAF_rptr slAF_ptr appFF_list appOF_list appOF_sliceN appOF_sliceS storeF_ptr copyF_slice extF_tuple s2aF_slice s2aF_list nchkF_ptr nchkF_rptr nchkF_f mmF_int ofStrF_str mkSF_int eqAF_agg
attribute [local irreducible] W WX WR WO WS WSr WH WHA WG WC FSpec
attribute [local simp] lendAll
attribute [local congr] W_cg WR_cg WO_cg WS_cg WSr_cg WH_cg WHA_cg WG_cg WC_cg WX_cg
attribute [local simp] Env.has AV.wkr wkrL AV.wkr_refl wkrL_refl AV.ltI ltL leHW hasW Env.lt AV.ids idsL AV.sub subL AV.ren AV.frz frzS frzP frzE frzL Heap.frz Blk.frz Blk.ren renL rnS rnP hasR leR idsL_bv subL_bv
attribute [local simp] cleanL_take cleanL_drop ltL_take ltL_drop idsL_take idsL_drop subL_take subL_drop cleanL_append ltL_append idsL_append subL_append
attribute [local simp] renE mvN mvH
attribute [local simp] fwd backH putL bwd
attribute [local simp] u8i u8e List.idxOf_cons
attribute [local simp] hasRW leRW
attribute [local simp] WS_at_q4 WSr_at_q4 WS_at_mx mx_set' loadWP splice_full Int.natCast_inj
theorem bit_step (b k : Nat) : b / 2 ^ k = 2 * (b / 2 ^ (k + 1)) + b / 2 ^ k % 2 := by
  rw [Nat.pow_succ, ← Nat.div_div_eq_div_mul]; omega
theorem fBit_spec (a : Nat) (i : Int) : FSpec Try.prog 86 [.agg (q4 a), .int .i64 i] [] (.bool (decide (0 ≤ i ∧ i < 256 ∧ a / 2 ^ i.toNat % 2 = 1))) [] := by
  refine FSpec.of_W fBit_low (by simp) ?_
  simp only [initEnv]
  simp
  by_cases h0 : 0 ≤ i
  · by_cases h1 : i < 256
    · obtain ⟨k, rfl⟩ := Int.eq_ofNat_of_zero_le h0
      have h6 : k < 256 := by omega
      obtain ⟨q, hq⟩ : ∃ q, q = k / 64 := ⟨_, rfl⟩
      obtain ⟨r, hr⟩ : ∃ r, r = k % 64 := ⟨_, rfl⟩
      have e1 : (k : Int).tdiv 64 = (q : Int) := by rw [hq]; rfl
      have e2 : (k : Int).tmod 64 = (r : Int) := by rw [hr]; rfl
      have e4 := and1_u64 (a := wd a q / 2 ^ r) (Nat.lt_of_le_of_lt (Nat.div_le_self _ _) (wd_lt _ _))
      have e5 : ((wd a q : Nat) : Int).fdiv (2 ^ min r 64) = ((wd a q / 2 ^ r : Nat) : Int) := by rw [show min r 64 = r by omega]; exact shr_nat _ _
      have e6 : (q : Int) < 4 := by omega
      have e7 : q < 4 := by omega
      have e3 := wd_bit' a k
      rw [← hq, ← hr] at e3
      generalize wd a q / 2 ^ r = z at *
      simp [h1, e1, e2, e6, e7, e5, e4, IntKind.bits, wrap64s (n := (q : Int)) (by omega) (by omega)]
      refine fin_W ?_
      simp [h1, ← e3]
      omega
    · simp [h0, h1]
      exact fin_W (by simp)
  · simp [h0]
    exact fin_W (by simp)
end Go.Proofs.Ythgibibeoapfbaa

/-
  Points.
-/
namespace Go.Proofs.Ythgibibeoapfbaa
open Go Go.Fw
attribute [local simp] bv cleanL_bv toBytes_bv ltL_bv atF_drop WS_at_bytes W_nil W_skip W_seq W_reg W_draw W_drawP W_kill W_keep W_block W_blk W_exit W_ret WX_blk WX_c WX_lp WX_li W_li W_condT W_condF W_cond WC_true WC_false
  WR_nil WR_cons WR_o1 WR_o2 o1_chk o2_chk WR_grd WG_tt WG_ff WG_tf WG_ft WG_none WS_some WS_ok1 WSr_no WSr_some WSr_ok1 WSr_at_bytes WH_some WHA_some chkF_cons chkF_nil chkE_some chkE_ok1 chkE_at evF WO_mv WO_pick WO_bin WO_isNil WO_eqA WO_un WO_convI WO_toStr WO_ofStr WO_build WO_buildF WO_load WO_nilCheck WO_fieldAddr WO_field WO_idxA WO_idxS
  WO_ixA WO_slS WO_slA WO_len WO_lenK WO_appF WO_extract WO_s2a WO_iface WO_min WO_max WO_alloc WO_box WO_buildO WO_store WO_appO WO_copy WO_makeS WO_allocA WO_makeA WO_cvt cvtF_slice WO_look lookF_map alAF mkAF WO_func bind1_v bind2_v bindH_v bindH2_v bindS_v okO_v pickO_t pickO_f
  Env.keep Env.get Env.set Env.del Env.dels Env.setO Env.opd Env.opds Env.opdO Env.parts intF aggF fillA splice cleanL AV.clean bndF fldF_one fldF_many toStrF boxF buildOF
  loadF_rptr loadF_rptrN atF_zero atF_succ blk_cons_zero blk_cons_succ loadF_p loadF_pN atB_some atBN_some retPost resL one
  okc_bool cells_bool notStr_bool okc_int cells_int notStr_int okc_str cells_str notStr_str okc_nil cells_nil notStr_nil okc_ptr cells_ptr notStr_ptr okc_rptr cells_rptr notStr_rptr okc_slice cells_slice notStr_slice 
  okc_list cells_list notStr_list okc_func cells_func notStr_func okc_nilFunc cells_nilFunc notStr_nilFunc okc_iface cells_iface notStr_iface okc_nilIface cells_nilIface notStr_nilIface okc_agg cells_agg notStr_agg 
  okc_tuple cells_tuple notStr_tuple lenF_slice lenF_list lenF_str faF_ptr faF_rptr idxSF_slice idxSF_list idxAF_ptr idxAF_rptr ixAF_many ixAF_one convF_int unF_neg unF_xor unF_not nilF_0nil nilF_0ptr nilF_0rptr nilF_1 
  nilF_2nil nilF_2f nilF_3nil nilF_3f binF_int binF_beq binF_bne binF_sadd binF_seq binF_sne sliceCells_list sliceCells_str sliceCells_slice cutC_some szAV_list szAV_str szAV_slice oneSl_list oneSl_slice slSF_sliceS 
  slSF_sliceN slSF_list slAF_rptr slAF_ptr appFF_list appOF_list appOF_sliceN appOF_sliceS storeF_ptr copyF_slice extF_tuple s2aF_slice s2aF_list nchkF_ptr nchkF_rptr nchkF_f mmF_int ofStrF_str mkSF_int eqAF_agg
attribute [local irreducible] W WX WR WO WS WSr WH WHA WG WC FSpec
attribute [local simp] lendAll
attribute [local congr] W_cg WR_cg WO_cg WS_cg WSr_cg WH_cg WHA_cg WG_cg WC_cg WX_cg
attribute [local simp] Env.has AV.wkr wkrL AV.wkr_refl wkrL_refl AV.ltI ltL leHW hasW Env.lt AV.ids idsL AV.sub subL AV.ren AV.frz frzS frzP frzE frzL Heap.frz Blk.frz Blk.ren renL rnS rnP hasR leR idsL_bv subL_bv
attribute [local simp] cleanL_take cleanL_drop ltL_take ltL_drop idsL_take idsL_drop subL_take subL_drop cleanL_append ltL_append idsL_append subL_append
attribute [local simp] renE mvN mvH
attribute [local simp] fwd backH putL bwd
attribute [local simp] u8i u8e List.idxOf_cons
attribute [local simp] hasRW leRW
attribute [local simp] WS_at_map WSr_at_map loadWP splice_full Int.natCast_inj
theorem wdq (x y : Fp) : (wd (fv x) 0 = wd (fv y) 0 ∧ wd (fv x) 1 = wd (fv y) 1 ∧ wd (fv x) 2 = wd (fv y) 2 ∧ wd (fv x) 3 = wd (fv y) 3) = (x = y) := by
  apply propext
  constructor
  · rintro ⟨h0, h1, h2, h3⟩
    refine fv_inj.1 (q4_inj (Nat.lt_of_lt_of_le (fv_255 x) (by decide)) (Nat.lt_of_lt_of_le (fv_255 y) (by decide)) ?_)
    simp only [q4, h0, h1, h2, h3]
  · rintro rfl; exact ⟨rfl, rfl, rfl, rfl⟩
theorem wd00 (k : Nat) : wd (fv 0) k = 0 := by rw [fv_zero, wd, Nat.zero_div, Nat.zero_mod]
theorem wdz (x : Fp) : (wd (fv x) 0 = 0 ∧ wd (fv x) 1 = 0 ∧ wd (fv x) 2 = 0 ∧ wd (fv x) 3 = 0) = (x = 0) := by
  have h := wdq x 0
  rw [wd00, wd00, wd00, wd00] at h
  exact h
/-- The point of two numbers. -/
def atE (x y : Fp) : Cv.EP Fp := ⟨x, y, 1, x * y⟩
def noneE : Cv.EP Fp := atE 0 1
theorem fCvAt_spec (x y : Fp) : FSpec Try.prog 70 [.agg (q4 (fv x) ++ q4 (fv y))] [] (.agg (ptC (atE x y))) [] := by
  refine FSpec.of_W fCvAt_low (by simp) ?_
  simp only [initEnv, ptC, atE]
  simp [q4]
  refine WO_callP [] rfl rfl fSmall1 (by simp [q4]) (by simp [q4]) ?_
  simp [q4]
  refine WO_callP [] rfl rfl (fMul2 x y ⟨false, true, false⟩) (by simp [q4]) (by simp [q4]) ?_
  simp [q4]
  exact fin_W (by simp [q4])
theorem fCvNone_spec : FSpec Try.prog 38 [] [] (.agg (ptC noneE)) [] := by
  have h := fCvAt_spec 0 1
  refine FSpec.of_W fCvNone_low (by simp) ?_
  simp only [initEnv, ptC, noneE] at h ⊢
  simp only [q4, wd00, List.cons_append, List.nil_append] at h
  simp [q4]
  refine WO_callP [] rfl rfl fSmall1 (by simp [q4]) (by simp [q4]) ?_
  simp [q4]
  refine WO_callP [] rfl rfl h (by simp [q4, atE]) (by simp [q4]) ?_
  simp [q4, atE]
  exact fin_W (by simp [q4, wd00])
def zeroE : Cv.EP Fp := ⟨0, 0, 0, 0⟩
def wholeE (p : Cv.EP Fp) : Cv.EP Fp := if p.x = 0 ∧ p.y = 0 ∧ p.z = 0 ∧ p.t = 0 then noneE else p
set_option maxHeartbeats 1000000 in
theorem fCvWhole_spec (p : Cv.EP Fp) : FSpec Try.prog 84 [.agg (ptC p)] [] (.agg (ptC (wholeE p))) [] := by
  obtain ⟨x, y, z, t⟩ := p
  have hx := wdz x
  have hy := wdz y
  have hz := wdz z
  have ht := wdz t
  refine FSpec.of_W fCvWhole_low (by simp) ?_
  simp only [initEnv, ptC, wholeE]
  have hnone := fCvNone_spec
  simp only [ptC] at hnone
  by_cases h : x = 0 ∧ y = 0 ∧ z = 0 ∧ t = 0
  · rw [if_pos h]
    obtain ⟨rfl, rfl, rfl, rfl⟩ := h
    simp [q4, wd00, hasK, ints]
    refine WO_callP [] rfl rfl hnone (by simp [q4]) (by simp [q4]) ?_
    simp [q4]
    exact fin_W (by simp [q4])
  · rw [if_neg h]
    have hall : ¬ (wd (fv x) 0 = 0 ∧ wd (fv x) 1 = 0 ∧ wd (fv x) 2 = 0 ∧ wd (fv x) 3 = 0 ∧ wd (fv y) 0 = 0 ∧ wd (fv y) 1 = 0 ∧ wd (fv y) 2 = 0 ∧ wd (fv y) 3 = 0 ∧ wd (fv z) 0 = 0 ∧ wd (fv z) 1 = 0 ∧ wd (fv z) 2 = 0 ∧ wd (fv z) 3 = 0 ∧ wd (fv t) 0 = 0 ∧ wd (fv t) 1 = 0 ∧ wd (fv t) 2 = 0 ∧ wd (fv t) 3 = 0) := by
      rintro ⟨a1, a2, a3, a4, b1, b2, b3, b4, c1, c2, c3, c4, d1, d2, d3, d4⟩
      exact h ⟨hx ▸ ⟨a1, a2, a3, a4⟩, hy ▸ ⟨b1, b2, b3, b4⟩, hz ▸ ⟨c1, c2, c3, c4⟩, ht ▸ ⟨d1, d2, d3, d4⟩⟩
    clear hx hy hz ht hnone h
    simp [q4, hasK, ints]
    refine WC_b (fun h => ?_) (fun h => ?_)
    · exfalso
      simp only [Bool.and_eq_true, decide_eq_true_eq] at h
      exact hall h
    · simp
      exact fin_W (by simp [q4])
/-- A point's cells, in a list of points. -/
def ptL (l : List (Cv.EP Fp)) : List AV := l.flatMap ptC
@[simp] theorem ptC_len (p : Cv.EP Fp) : (ptC p).length = 16 := rfl
theorem ptL_len (l : List (Cv.EP Fp)) : (ptL l).length = 16 * l.length := by
  induction l with
  | nil => rfl
  | cons r l ih => rw [ptL, List.flatMap_cons, List.length_append, ptC_len, List.length_cons]; unfold ptL at ih; omega
theorem ptL_get : ∀ (l : List (Cv.EP Fp)) (i : Nat) (h : i < l.length), ((ptL l).drop (i * 16)).take 16 = ptC l[i]
  | r :: l, 0, _ => by simp only [ptL, List.flatMap_cons, Nat.zero_mul, List.drop_zero, List.getElem_cons_zero]; exact List.take_left' rfl
  | r :: l, i + 1, h => by
    have := ptL_get l i (by simpa using h)
    simp only [ptL, List.flatMap_cons, List.getElem_cons_succ] at this ⊢
    rw [show (i + 1) * 16 = 16 + i * 16 by omega, ← List.drop_drop, List.drop_left' (ptC_len r)]
    exact this
theorem ptL_lt (n : Nat) (l : List (Cv.EP Fp)) : ltL n (ptL l) = true := ltL_flatMap _ fun x => by simp [ptC, q4]
theorem ptL_ids (q : Nat → Bool) (l : List (Cv.EP Fp)) : idsL q (ptL l) = true := idsL_flatMap _ fun x => by simp [ptC, q4]
theorem ptL_sub (s : Nat → Nat → Nat → Nat → Option Nat → AV) (p : Nat → Nat → AV) (l : List (Cv.EP Fp)) : subL s p (ptL l) = ptL l := subL_flatMap _ fun x => by simp [ptC, q4]
theorem cleanL_pt (p : Cv.EP Fp) : cleanL (ptC p) = true := by simp [ptC, q4]
/-- The sum of points. -/
def addE (l : List (Cv.EP Fp)) : Cv.EP Fp := l.foldl (fun o p => Cv.sumE (toF dP) o (wholeE p)) noneE
theorem addE_take (l : List (Cv.EP Fp)) (i : Nat) (h : i < l.length) : addE (l.take (i + 1)) = Cv.sumE (toF dP) (addE (l.take i)) (wholeE l[i]) := by
  unfold addE
  rw [List.take_succ_eq_append_getElem h, List.foldl_append]
  rfl
set_option maxHeartbeats 2000000 in
theorem fCvAdd_spec (l : List (Cv.EP Fp)) (md : Md) (hl : l.length < 2 ^ 40) : FSpec Try.prog 32 [.list 16 md (ptL l)] [] (.agg (ptC (addE l))) [] := by
  obtain ⟨C, hC⟩ : ∃ C, C = ptL l := ⟨_, rfl⟩
  have hCl : C.length = 16 * l.length := by rw [hC]; exact ptL_len l
  have hCi : ∀ i (h : i < l.length), (C.drop (i * 16)).take 16 = ptC l[i] := by rw [hC]; exact ptL_get l
  have hC1 : ∀ n, ltL n C = true := by rw [hC]; exact fun n => ptL_lt n l
  have hC2 : ∀ q, idsL q C = true := by rw [hC]; exact fun q => ptL_ids q l
  have hC3 : ∀ s p, subL s p C = C := by rw [hC]; exact fun s p => ptL_sub s p l
  have hnone := fCvNone_spec
  have hn0 : noneE = addE (l.take 0) := rfl
  rw [hn0] at hnone
  rw [← hC]
  have e7 : ((16 * l.length : Nat) : Int) / 16 = l.length := by omega
  refine FSpec.of_W fCvAdd_low (by simp) ?_
  simp only [initEnv]
  simp
  refine WO_callP [] rfl rfl hnone (by simp [ptC, q4]) (by simp) ?_
  simp [ptC, q4, hCl]
  refine W_loop (X := { i : Nat // i ≤ l.length }) (fun i => [(2, .ptr 0 0), (3, .ptr 1 0), (7, .list 16 md C), (8, .int .i64 (l.length : Nat)), (9, .int .i64 (i.1 : Nat))]) (fun i => [some ⟨ptC zeroE, 51, true⟩, some ⟨ptC (addE (l.take i.1)), 51, true⟩]) (fun i => l.length - i.1) ⟨0, by omega⟩ retPost_le ?_ ?_
  · refine cut_w ?_
    simp [ptC, q4, zeroE, wd00, hC1]
  · rintro ⟨i, hi⟩
    simp only
    simp
    refine WC_dec (fun hlt => ?_) (fun hlt => ?_)
    · have e1 : IntKind.i64.wrap ((i : Int) + 1) = (i : Int) + 1 := wrap64s (by omega) (by omega)
      have hx := hCi i hlt
      have ht := addE_take l i hlt
      generalize l[i] = p at *
      generalize addE (l.take i) = o at *
      have hw := fCvWhole_spec p
      have hs := fCvSum_spec o (wholeE p)
      rw [← ht] at hs
      simp only [ptC] at hw hs
      simp [hCl, hx, cleanL_pt, ptC, q4]
      repeat (refine ⟨by omega, ?_⟩)
      refine WO_callP [] rfl rfl hw (by simp [q4]) (by simp [q4]) ?_
      simp [q4]
      refine WO_callP [] rfl rfl hs (by simp [q4]) (by simp [q4]) ?_
      simp [q4]
      refine ⟨⟨i + 1, by omega⟩, by simp; omega, ?_⟩
      refine cut_rw [0, 1] (by simp) rfl (by simp [e1, hC1, hC2, hC3]) ?_
      simp [ptC, q4, zeroE, wd00, hC1, hC2, hC3, e1]
    · have : i = l.length := by omega
      subst this
      simp [List.take_of_length_le, ptC, q4]
      exact fin_W (by simp [q4])
/-- So many of the upper bits. -/
def timesE (p : Cv.EP Fp) (n : Nat) : Nat → Cv.EP Fp
  | 0 => noneE
  | k + 1 => if n / 2 ^ (255 - k) % 2 = 1 then Cv.sumE (toF dP) (Cv.sumE (toF dP) (timesE p n k) (timesE p n k)) p else Cv.sumE (toF dP) (timesE p n k) (timesE p n k)
set_option maxHeartbeats 2000000 in
theorem fCvTimes_spec (p : Cv.EP Fp) (n : Nat) : FSpec Try.prog 27 [.agg (ptC p), .agg (q4 n)] [] (.agg (ptC (timesE (wholeE p) n 256))) [] := by
  have hw := fCvWhole_spec p
  have hnone := fCvNone_spec
  generalize wholeE p = w at *
  have hn0 : noneE = timesE w n 0 := rfl
  rw [hn0] at hnone
  simp only [ptC] at hw hnone ⊢
  refine FSpec.of_W fCvTimes_low (by simp) ?_
  simp only [initEnv]
  simp [q4]
  refine WO_callP [] rfl rfl hw (by simp [q4]) (by simp [q4]) ?_
  simp [q4]
  refine WO_callP [] rfl rfl hnone (by simp [q4]) (by simp [q4]) ?_
  simp [q4]
  refine W_loop (X := { k : Nat // k ≤ 256 }) (fun k => [(2, .ptr 0 0), (3, .ptr 1 0), (4, .ptr 2 0), (5, .ptr 3 0), (6, .int .i64 (255 - (k.1 : Int)))]) (fun k => [some ⟨ptC w, 51, true⟩, some ⟨q4 n, 62, true⟩, some ⟨ptC zeroE, 51, true⟩, some ⟨ptC (timesE w n k.1), 51, true⟩]) (fun k => 256 - k.1) ⟨0, by omega⟩ retPost_le ?_ ?_
  · refine cut_w ?_
    simp [ptC, q4, zeroE, wd00]
  · rintro ⟨k, hk⟩
    simp only
    simp [ptC, q4]
    by_cases hlt : k < 256
    · have c0 : (0 : Int) ≤ 255 - (k : Int) := by omega
      have c2 : (k : Int) ≤ 255 := by omega
      have e1 : IntKind.i64.wrap (255 - (k : Int) - 1) = 255 - ((k + 1 : Nat) : Int) := by rw [wrap64s (by omega) (by omega)]; omega
      push_cast at e1
      have hb := fBit_spec n (255 - (k : Int))
      rw [show (255 - (k : Int)).toNat = 255 - k by omega] at hb
      have hbd : decide (0 ≤ 255 - (k : Int) ∧ 255 - (k : Int) < 256 ∧ n / 2 ^ (255 - k) % 2 = 1) = decide (n / 2 ^ (255 - k) % 2 = 1) := by
        have c1 : 255 - (k : Int) < 256 := by omega
        simp [c0, c1, c2]
      rw [hbd] at hb
      have hs1 := fCvSum_spec (timesE w n k) (timesE w n k)
      have hs2 := fCvSum_spec (Cv.sumE (toF dP) (timesE w n k) (timesE w n k)) w
      have hsucc : timesE w n (k + 1) = if n / 2 ^ (255 - k) % 2 = 1 then Cv.sumE (toF dP) (Cv.sumE (toF dP) (timesE w n k) (timesE w n k)) w else Cv.sumE (toF dP) (timesE w n k) (timesE w n k) := rfl
      generalize Cv.sumE (toF dP) (timesE w n k) (timesE w n k) = o1 at *
      generalize Cv.sumE (toF dP) o1 w = o2 at *
      generalize timesE w n k = o at *
      simp only [ptC] at hs1 hs2
      simp only [q4] at hb
      simp [c0, c2]
      refine WO_callP [] rfl rfl hs1 (by simp [q4]) (by simp [q4]) ?_
      simp [q4]
      refine WO_callP [] rfl rfl hb (by simp) (by simp) ?_
      simp
      by_cases hbit : n / 2 ^ (255 - k) % 2 = 1
      · rw [if_pos hbit] at hsucc
        simp [hbit]
        refine WO_callP [] rfl rfl hs2 (by simp [q4]) (by simp [q4]) ?_
        simp [q4]
        exact ⟨⟨k + 1, by omega⟩, by simp; omega, cut_w (by simp [ptC, q4, hsucc, e1])⟩
      · rw [if_neg hbit] at hsucc
        simp [hbit]
        exact ⟨⟨k + 1, by omega⟩, by simp; omega, cut_w (by simp [ptC, q4, hsucc, e1])⟩
    · have hk6 : k = 256 := by omega
      have c0 : ¬ (0 : Int) ≤ 255 - (k : Int) := by omega
      have c2 : ¬ (k : Int) ≤ 255 := by omega
      simp [c0, c2]
      exact fin_W (by simp [q4, hk6])
end Go.Proofs.Ythgibibeoapfbaa
