/-
  Sums of points.
-/
import Derived.Test.YthgibibeoapfbaaE4
import Derived.Test.YthgibibeoapfbaaeKV
set_option linter.unusedSimpArgs false
set_option linter.unnecessarySimpa false
set_option linter.unusedVariables false
set_option linter.unusedSectionVars false
namespace Go.Proofs.Ythgibibeoapfbaa
open Go Go.Fw
attribute [local simp] bv cleanL_bv toBytes_bv ltL_bv atF_drop WS_at_bytes W_nil W_skip W_seq W_reg W_draw W_drawP W_kill W_keep W_block W_blk W_exit W_ret WX_blk WX_c WX_lp WX_li W_li W_condT W_condF W_cond WC_true WC_false
  WR_nil WR_cons WR_o1 WR_o2 o1_chk o2_chk WR_grd WG_tt WG_ff WG_tf WG_ft WG_none WS_some WS_ok1 WSr_no WSr_some WSr_ok1 WSr_at_bytes WH_some WHA_some chkF_cons chkF_nil chkE_some chkE_ok1 chkE_at evF WO_mv WO_pick WO_bin WO_isNil WO_eqA WO_un WO_convI WO_toStr WO_ofStr WO_build WO_buildF WO_load WO_nilCheck WO_fieldAddr WO_field WO_idxA WO_idxS
  WO_ixA WO_slS WO_slA WO_len WO_lenK WO_appF WO_extract WO_s2a WO_iface WO_min WO_max WO_alloc WO_box WO_buildO WO_store WO_appO WO_copy WO_makeS WO_allocA WO_makeA WO_cvt cvtF_slice WO_look lookF_map alAF mkAF WO_func bind1_v bind2_v bindH_v bindH2_v bindS_v okO_v pickO_t pickO_f
  Env.keep Env.get Env.set Env.del Env.dels Env.setO Env.opd Env.opds Env.opdO Env.parts intF aggF fillA splice cleanL AV.clean bndF fldF_one fldF_many toStrF boxF buildOF
  loadF_rptr loadF_rptrN atF_zero atF_succ blk_cons_zero blk_cons_succ loadF_p loadF_pN atB_some atBN_some retPost resL one
  okc_bool cells_bool notStr_bool okc_int cells_int notStr_int okc_str cells_str notStr_str okc_nil cells_nil notStr_nil okc_ptr cells_ptr notStr_ptr okc_rptr cells_rptr notStr_rptr okc_slice cells_slice notStr_slice 
  okc_list cells_list notStr_list okc_func cells_func notStr_func okc_nilFunc cells_nilFunc notStr_nilFunc okc_iface cells_iface notStr_iface okc_nilIface cells_nilIface notStr_nilIface okc_agg cells_agg notStr_agg 
  okc_tuple cells_tuple notStr_tuple lenF_slice lenF_list lenF_str faF_ptr faF_rptr idxSF_slice idxSF_list idxAF_ptr idxAF_rptr ixAF_many ixAF_one convF_int unF_neg unF_xor unF_not nilF_0nil nilF_0ptr nilF_0rptr nilF_1 
  nilF_2nil nilF_2f nilF_3nil nilF_3f binF_int binF_beq binF_bne binF_sadd binF_seq binF_sne sliceCells_list sliceCells_str sliceCells_slice cutC_some szAV_list szAV_str szAV_slice oneSl_list oneSl_slice slSF_sliceS 
  slSF_sliceN slSF_list slAF_rptr slAF_ptr appFF_list appOF_list appOF_sliceN appOF_sliceS storeF_ptr copyF_slice extF_tuple s2aF_slice s2aF_list nchkF_ptr nchkF_rptr nchkF_f mmF_int ofStrF_str mkSF_int eqAF_agg
attribute [local irreducible] W WX WR WO WS WSr WH WHA WG WC FSpec
attribute [local simp] lendAll
attribute [local congr] W_cg WR_cg WO_cg WS_cg WSr_cg WH_cg WHA_cg WG_cg WC_cg WX_cg
attribute [local simp] Env.has AV.wkr wkrL AV.wkr_refl wkrL_refl AV.ltI ltL leHW hasW Env.lt AV.ids idsL AV.sub subL AV.ren AV.frz frzS frzP frzE frzL Heap.frz Blk.frz Blk.ren renL rnS rnP hasR leR idsL_bv subL_bv
attribute [local simp] cleanL_take cleanL_drop ltL_take ltL_drop idsL_take idsL_drop subL_take subL_drop cleanL_append ltL_append idsL_append subL_append
attribute [local simp] renE mvN mvH
attribute [local simp] fwd backH putL bwd
attribute [local simp] u8i u8e List.idxOf_cons
attribute [local simp] hasRW leRW
attribute [local simp] WS_at_map WSr_at_map loadWP splice_full Int.natCast_inj
theorem fv_255 (x : Fp) : fv x < 2 ^ 255 := Nat.lt_of_lt_of_le (fv_lt x) (by decide)
theorem fMul2 (x y : Fp) (md : Md) : FSpec Try.prog 63 [.list 4 md (q4 (fv x) ++ q4 (fv y))] [] (.agg (q4 (fv (x * y)))) [] := by
  have h := fFdMul_spec [fv x, fv y] md (by intro z hz; simp at hz; rcases hz with rfl | rfl <;> exact fv_255 _) (by simp)
  rw [show mulP [fv x, fv y] = fv (x * y) by rw [fv_mul]; show (1 * fv x % p25) * fv y % p25 = _; rw [Nat.one_mul, Nat.mod_eq_of_lt (fv_lt x)]] at h
  exact h
theorem fMul3 (x y z : Fp) (md : Md) : FSpec Try.prog 63 [.list 4 md (q4 (fv x) ++ (q4 (fv y) ++ q4 (fv z)))] [] (.agg (q4 (fv (x * y * z)))) [] := by
  have h := fFdMul_spec [fv x, fv y, fv z] md (by intro w hz; simp at hz; rcases hz with rfl | rfl | rfl <;> exact fv_255 _) (by simp)
  rw [show mulP [fv x, fv y, fv z] = fv (x * y * z) by rw [fv_mul, fv_mul]; show (1 * fv x % p25) * fv y % p25 * fv z % p25 = _; rw [Nat.one_mul, Nat.mod_eq_of_lt (fv_lt x)]] at h
  exact h
theorem fMul4 (x y z w : Fp) (md : Md) : FSpec Try.prog 63 [.list 4 md (q4 (fv x) ++ (q4 (fv y) ++ (q4 (fv z) ++ q4 (fv w))))] [] (.agg (q4 (fv (x * y * z * w)))) [] := by
  have h := fFdMul_spec [fv x, fv y, fv z, fv w] md (by intro w hz; simp at hz; rcases hz with rfl | rfl | rfl | rfl <;> exact fv_255 _) (by simp)
  rw [show mulP [fv x, fv y, fv z, fv w] = fv (x * y * z * w) by rw [fv_mul, fv_mul, fv_mul]; show (1 * fv x % p25) * fv y % p25 * fv z % p25 * fv w % p25 = _; rw [Nat.one_mul, Nat.mod_eq_of_lt (fv_lt x)]] at h
  exact h
theorem fAdd2 (x y : Fp) (md : Md) : FSpec Try.prog 65 [.list 4 md (q4 (fv x) ++ q4 (fv y))] [] (.agg (q4 (fv (x + y)))) [] := by
  have h := fFdAdd_spec [fv x, fv y] md (by intro z hz; simp at hz; rcases hz with rfl | rfl <;> exact fv_255 _) (by simp)
  rw [show [fv x, fv y].sum % p25 = fv (x + y) by rw [fv_add]; show (fv x + (fv y + 0)) % p25 = _; rfl] at h
  exact h
theorem fSub2 (x y : Fp) : FSpec Try.prog 64 [.agg (q4 (fv x)), .agg (q4 (fv y))] [] (.agg (q4 (fv (x - y)))) [] := by
  have h := fFdSub_spec (fv x) (fv y) (fv_lt x) (fv_lt y)
  rw [show subP (fv x) (fv y) = fv (x - y) from (fv_sub x y).symm] at h
  exact h
theorem fNeg1 (x : Fp) : FSpec Try.prog 69 [.agg (q4 (fv x))] [] (.agg (q4 (fv (-x)))) [] := by
  rw [fv_neg]; exact fFdNeg_spec (fv x) (fv_lt x)
theorem fInv1 (x : Fp) : FSpec Try.prog 67 [.agg (q4 (fv x))] [] (.agg (q4 (fv (invF x)))) [] := by
  rw [fv_invF]; exact fFdInvert_spec (fv x) (fv_lt x)
theorem fv_two : fv (2 : Fp) = 2 := by
  show 2 % p25 = 2
  exact Nat.mod_eq_of_lt (by decide)
theorem fSmall1 : FSpec Try.prog 62 [.int .u64 1] [] (.agg (q4 (fv 1))) [] := by
  rw [fv_one]; exact fFdSmall_spec 1 (by decide)
theorem fSmall2 : FSpec Try.prog 62 [.int .u64 2] [] (.agg (q4 (fv 2))) [] := by
  rw [fv_two]; exact fFdSmall_spec 2 (by decide)
theorem fCvD_spec : FSpec Try.prog 66 [] [] (.agg (q4 (fv (toF dP)))) [] := by
  rw [toF_lt dP_lt]
  refine FSpec.of_W fCvD_low (by simp) ?_
  simp only [initEnv]
  simp
  exact fin_W (by simp [q4, show wd dP 0 = 8496970652267935907 by decide +kernel, show wd dP 1 = 31536524315187371 by decide +kernel, show wd dP 2 = 10144147576115030168 by decide +kernel, show wd dP 3 = 5909686906226998899 by decide +kernel])
/-- A point's cells. -/
def ptC (p : Cv.EP Fp) : List AV := q4 (fv p.x) ++ (q4 (fv p.y) ++ (q4 (fv p.z) ++ q4 (fv p.t)))
set_option maxRecDepth 100000 in
set_option maxHeartbeats 2000000 in
theorem fCvSum_spec (p q : Cv.EP Fp) : FSpec Try.prog 85 [.agg (ptC p), .agg (ptC q)] [] (.agg (ptC (Cv.sumE (toF dP) p q))) [] := by
  obtain ⟨x1, y1, z1, t1⟩ := p
  obtain ⟨x2, y2, z2, t2⟩ := q
  simp only [ptC, Cv.sumE]
  have hD := fCvD_spec
  generalize toF dP = d at *
  refine FSpec.of_W fCvSum_low (by simp) ?_
  simp only [initEnv]
  simp [q4]
  refine WO_callQ rfl (fSub2 y1 x1) (by simp [q4]) ?_
  simp [q4]
  refine WO_callQ rfl (fSub2 y2 x2) (by simp [q4]) ?_
  simp [q4]
  refine WO_callQ rfl (fMul2 (y1 - x1) (y2 - x2) ⟨false, true, false⟩) (by simp [q4]) ?_
  generalize (y1 - x1) * (y2 - x2) = a
  simp [q4]
  refine WO_callQ rfl (fAdd2 y1 x1 ⟨false, true, false⟩) (by simp [q4]) ?_
  simp [q4]
  refine WO_callQ rfl (fAdd2 y2 x2 ⟨false, true, false⟩) (by simp [q4]) ?_
  simp [q4]
  refine WO_callQ rfl (fMul2 (y1 + x1) (y2 + x2) ⟨false, true, false⟩) (by simp [q4]) ?_
  generalize (y1 + x1) * (y2 + x2) = b
  simp [q4]
  refine WO_callQ rfl (hD) (by simp [q4]) ?_
  simp [q4]
  refine WO_callQ rfl (fSmall2) (by simp [q4]) ?_
  simp [q4]
  refine WO_callQ rfl (fMul4 t1 t2 d 2 ⟨false, true, false⟩) (by simp [q4]) ?_
  generalize t1 * t2 * d * 2 = c
  simp [q4]
  refine WO_callQ rfl (fSmall2) (by simp [q4]) ?_
  simp [q4]
  refine WO_callQ rfl (fMul3 z1 z2 2 ⟨false, true, false⟩) (by simp [q4]) ?_
  generalize z1 * z2 * 2 = z
  simp [q4]
  refine WO_callQ rfl (fSub2 b a) (by simp [q4]) ?_
  simp [q4]
  refine WO_callQ rfl (fSub2 z c) (by simp [q4]) ?_
  simp [q4]
  refine WO_callQ rfl (fAdd2 z c ⟨false, true, false⟩) (by simp [q4]) ?_
  simp [q4]
  refine WO_callQ rfl (fAdd2 b a ⟨false, true, false⟩) (by simp [q4]) ?_
  simp [q4]
  refine WO_callP [] rfl rfl (fMul2 (b - a) (z - c) ⟨false, true, false⟩) (by simp [q4]) (by simp [q4]) ?_
  simp [q4]
  refine WO_callP [] rfl rfl (fMul2 (z + c) (b + a) ⟨false, true, false⟩) (by simp [q4]) (by simp [q4]) ?_
  simp [q4]
  refine WO_callP [] rfl rfl (fMul2 (z - c) (z + c) ⟨false, true, false⟩) (by simp [q4]) (by simp [q4]) ?_
  simp [q4]
  refine WO_callP [] rfl rfl (fMul2 (b - a) (b + a) ⟨false, true, false⟩) (by simp [q4]) (by simp [q4]) ?_
  simp [q4]
  exact fin_W (by simp [q4])
end Go.Proofs.Ythgibibeoapfbaa
