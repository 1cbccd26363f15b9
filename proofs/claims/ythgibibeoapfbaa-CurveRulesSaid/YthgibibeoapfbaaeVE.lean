/-
  curve rules
-/
import Derived.Test.YthgibibeoapfbaaeVD
set_option linter.unusedSimpArgs false
set_option linter.unnecessarySimpa false
set_option linter.unusedVariables false
set_option linter.unusedSectionVars false
namespace Go.Proofs.Ythgibibeoapfbaa
open Go Go.Fw
attribute [local simp] bv cleanL_bv toBytes_bv ltL_bv atF_drop WS_at_bytes W_nil W_skip W_seq W_reg W_draw W_drawP W_kill W_keep W_block W_blk W_exit W_ret WX_blk WX_c WX_lp WX_li W_li W_condT W_condF W_cond WC_true WC_false
  WR_nil WR_cons WR_o1 WR_o2 o1_chk o2_chk WR_grd WG_tt WG_ff WG_tf WG_ft WG_none WS_some WS_ok1 WSr_no WSr_some WSr_ok1 WSr_at_bytes WH_some WHA_some chkF_cons chkF_nil chkE_some chkE_ok1 chkE_at evF WO_mv WO_pick WO_bin WO_isNil WO_eqA WO_un WO_convI WO_toStr WO_ofStr WO_build WO_buildF WO_load WO_nilCheck WO_fieldAddr WO_field WO_idxA WO_idxS
  WO_ixA WO_slS WO_slA WO_len WO_lenK WO_appF WO_extract WO_s2a WO_iface WO_min WO_max WO_alloc WO_box WO_buildO WO_store WO_appO WO_copy WO_makeS WO_allocA WO_makeA WO_cvt cvtF_slice WO_look lookF_map alAF mkAF WO_func bind1_v bind2_v bindH_v bindH2_v bindS_v okO_v pickO_t pickO_f
  Env.keep Env.get Env.set Env.del Env.dels Env.setO Env.opd Env.opds Env.opdO Env.parts intF aggF fillA splice cleanL AV.clean bndF fldF_one fldF_many toStrF boxF buildOF
  loadF_rptr loadF_rptrN atF_zero atF_succ blk_cons_zero blk_cons_succ loadF_p loadF_pN atB_some atBN_some retPost resL one
  okc_bool cells_bool notStr_bool okc_int cells_int notStr_int okc_str cells_str notStr_str okc_nil cells_nil notStr_nil okc_ptr cells_ptr notStr_ptr okc_rptr cells_rptr notStr_rptr okc_slice cells_slice notStr_slice 
  okc_list cells_list notStr_list okc_func cells_func notStr_func okc_nilFunc cells_nilFunc notStr_nilFunc okc_iface cells_iface notStr_iface okc_nilIface cells_nilIface notStr_nilIface okc_agg cells_agg notStr_agg 
  okc_tuple cells_tuple notStr_tuple lenF_slice lenF_list lenF_str faF_ptr faF_rptr idxSF_slice idxSF_list idxAF_ptr idxAF_rptr ixAF_many ixAF_one convF_int unF_neg unF_xor unF_not nilF_0nil nilF_0ptr nilF_0rptr nilF_1 
  nilF_2nil nilF_2f nilF_3nil nilF_3f binF_int binF_beq binF_bne binF_sadd binF_seq binF_sne sliceCells_list sliceCells_str sliceCells_slice cutC_some szAV_list szAV_str szAV_slice oneSl_list oneSl_slice slSF_sliceS 
  slSF_sliceN slSF_list slAF_rptr slAF_ptr appFF_list appOF_list appOF_sliceN appOF_sliceS storeF_ptr copyF_slice extF_tuple s2aF_slice s2aF_list nchkF_ptr nchkF_rptr nchkF_f mmF_int ofStrF_str mkSF_int eqAF_agg
attribute [local irreducible] W WX WR WO WS WSr WH WHA WG WC FSpec
attribute [local simp] lendAll
attribute [local congr] W_cg WR_cg WO_cg WS_cg WSr_cg WH_cg WHA_cg WG_cg WC_cg WX_cg
attribute [local simp] Env.has AV.wkr wkrL AV.wkr_refl wkrL_refl AV.ltI ltL leHW hasW Env.lt AV.ids idsL AV.sub subL AV.ren AV.frz frzS frzP frzE frzL Heap.frz Blk.frz Blk.ren renL rnS rnP hasR leR idsL_bv subL_bv
attribute [local simp] cleanL_take cleanL_drop ltL_take ltL_drop idsL_take idsL_drop subL_take subL_drop cleanL_append ltL_append idsL_append subL_append
attribute [local simp] renE mvN mvH
attribute [local simp] fwd backH putL bwd
attribute [local simp] u8i u8e List.idxOf_cons
attribute [local simp] hasRW leRW
attribute [local simp] WS_at_map WSr_at_map loadWP splice_full Int.natCast_inj q17_d q17_t q17_t0 q17_d34 q17_t51 q17_s0 q17_s17 q17_s34 hk17
theorem whole_zero : wholeE zeroE = noneE := if_pos ⟨rfl, rfl, rfl, rfl⟩
theorem whole_none : wholeE noneE = noneE := whole_rep rep_none
theorem same_zero (p : Cv.EP Fp) : sameE p zeroE = sameE p noneE := by unfold sameE; rw [whole_zero, whole_none]
theorem aff_zero : affE zeroE = affE noneE := by
  rw [aff_rep rep_none]
  exact if_pos rfl
theorem add2_rep {p q : Cv.EP Fp} {P Q : Cv.Pt FP} (hp : Cv.Rep p P) (hq : Cv.Rep q Q) : Cv.Rep (addE [p, q]) (Cv.add P Q) := by
  have h1 := Cv.sum_rep rep_none hp
  rw [Cv.zero_add] at h1
  have h2 := Cv.sum_rep h1 hq
  show Cv.Rep (Cv.sumE (toF dP) (Cv.sumE (toF dP) noneE (wholeE p)) (wholeE q)) _
  rw [whole_rep hp, whole_rep hq]
  exact h2
theorem addz_rep {p : Cv.EP Fp} {P : Cv.Pt FP} (hp : Cv.Rep p P) : Cv.Rep (addE [zeroE, p]) P := by
  have h1 := Cv.sum_rep rep_none rep_none
  rw [Cv.zero_add] at h1
  have h2 := Cv.sum_rep h1 hp
  rw [Cv.zero_add] at h2
  show Cv.Rep (Cv.sumE (toF dP) (Cv.sumE (toF dP) noneE (wholeE zeroE)) (wholeE p)) _
  rw [whole_rep hp, whole_zero]
  exact h2
theorem smul_ord (k : Nat) : Cv.smul (k * Lq) P0 = Cv.zero FP := by rw [← Cv.smul_mul, order_base, Cv.smul_zero]
theorem smul_mod (k : Nat) : Cv.smul (k % Lq) P0 = Cv.smul k P0 := by
  have h : k = k / Lq * Lq + k % Lq := by rw [Nat.mul_comm]; exact (Nat.div_add_mod k Lq).symm
  have e := Cv.smul_add (k / Lq * Lq) (k % Lq) P0
  rw [smul_ord, Cv.zero_add, ← h] at e
  exact e.symm
theorem ptL2 (p q : Cv.EP Fp) : ptL [p, q] = ptC p ++ ptC q := by simp [ptL]
theorem ptC_zero : ptC zeroE = [.int .u64 0, .int .u64 0, .int .u64 0, .int .u64 0, .int .u64 0, .int .u64 0, .int .u64 0, .int .u64 0, .int .u64 0, .int .u64 0, .int .u64 0, .int .u64 0, .int .u64 0, .int .u64 0, .int .u64 0, .int .u64 0] := by
  simp [ptC, zeroE, q4, wd00]
set_option maxRecDepth 100000 in
set_option maxHeartbeats 4000000 in
theorem fCurveRules_spec (a b : Nat) (ha : a < 2 ^ 256) (hb : b < 2 ^ 256) : FSpec Try.prog 8 [.agg (q4 a), .agg (q4 b)] [] (.bool true) [] := by
  have b1 := fBytesL_spec a
  have b2 := fBytesL_spec b
  have r1 := fReduce_spec (byL 32 a) ⟨false, true, false⟩ (by simp [byL_len])
  have r2 := fReduce_spec (byL 32 b) ⟨false, true, false⟩ (by simp [byL_len])
  rw [byN_byL, Nat.mod_eq_of_lt (show a < 256 ^ 32 from ha)] at r1
  rw [byN_byL, Nat.mod_eq_of_lt (show b < 256 ^ 32 from hb)] at r2
  have l1 : (byL 32 a).length = 32 := byL_len 32 a
  have l2 : (byL 32 b).length = 32 := byL_len 32 b
  have k1 : List.take 32 ((byL 32 a).map bv) = (byL 32 a).map bv := List.take_of_length_le (by simp [l1])
  have k2 : List.take 32 ((byL 32 b).map bv) = (byL 32 b).map bv := List.take_of_length_le (by simp [l2])
  have hLq := Lq_lt
  have hm : a % Lq < Lq := Nat.mod_lt _ (by decide)
  have hn : b % Lq < Lq := Nat.mod_lt _ (by decide)
  generalize byL 32 a = c at *
  generalize byL 32 b = d at *
  generalize a % Lq = m at *
  generalize b % Lq = n at *
  have hA := fAdd_mod m n hm hn
  have hO := fOrder_spec
  have hLv := fCvLives_spec
  have hBs := fCvBase_spec
  have t1 := fCvTimes_spec (atE (toF baseX) (toF baseY)) m
  have t2 := fCvTimes_spec (atE (toF baseX) (toF baseY)) n
  have t3 := fCvTimes_spec (atE (toF baseX) (toF baseY)) ((m + n) % Lq)
  have hs : (m + n) % Lq < Lq := Nat.mod_lt _ (by decide)
  rw [show timesE (wholeE (atE (toF baseX) (toF baseY))) m 256 = pB m from rfl] at t1
  rw [show timesE (wholeE (atE (toF baseX) (toF baseY))) n 256 = pB n from rfl] at t2
  rw [show timesE (wholeE (atE (toF baseX) (toF baseY))) ((m + n) % Lq) 256 = pB ((m + n) % Lq) from rfl] at t3
  have p1 : Cv.Rep (pB m) (Cv.smul m P0) := pB_rep (by omega)
  have p2 : Cv.Rep (pB n) (Cv.smul n P0) := pB_rep (by omega)
  have p3 : Cv.Rep (pB ((m + n) % Lq)) (Cv.smul ((m + n) % Lq) P0) := pB_rep (by omega)
  rw [smul_mod, Cv.smul_add] at p3
  have q1 := times256 p1 (show n < 2 ^ 256 by omega)
  have q2 := times256 p2 (show m < 2 ^ 256 by omega)
  have q3 := times256 p1 (show Lq < 2 ^ 256 by omega)
  rw [Cv.smul_mul] at q1 q2 q3
  rw [Nat.mul_comm Lq m, smul_ord] at q3
  rw [Nat.mul_comm n m] at q1
  have u1 := fCvTimes_spec (pB m) n
  have u2 := fCvTimes_spec (pB n) m
  have u3 := fCvTimes_spec (pB m) Lq
  generalize timesE (wholeE (pB m)) n 256 = x1 at *
  generalize timesE (wholeE (pB n)) m 256 = x2 at *
  generalize timesE (wholeE (pB m)) Lq 256 = x3 at *
  generalize pB ((m + n) % Lq) = s at *
  generalize pB m = p at *
  generalize pB n = q at *
  generalize (m + n) % Lq = k at *
  have a1 := fCvAdd_spec [p, q] ⟨false, true, false⟩ (by simp)
  have a2 := fCvAdd_spec [q, p] ⟨false, true, false⟩ (by simp)
  have a3 := fCvAdd_spec [p, negE p] ⟨false, true, false⟩ (by simp)
  have a4 := fCvAdd_spec [zeroE, p] ⟨false, true, false⟩ (by simp)
  have hN := fCvNeg_spec p
  have hO1 := fCvNone_spec
  have c1 := add2_rep p1 p2
  have c2 := add2_rep p2 p1
  have c3 := add2_rep p1 (neg_rep p1)
  have c4 := addz_rep p1
  have s1 := fCvSame_spec (addE [p, q]) (addE [q, p])
  have s2 := fCvSame_spec (addE [p, q]) s
  have s3 := fCvSame_spec x1 x2
  have s4 := fCvSame_spec x3 noneE
  have s5 := fCvSame_spec (addE [p, negE p]) zeroE
  have s6 := fCvSame_spec (addE [zeroE, p]) p
  rw [(sameE_rep c1 c2).2 (Cv.add_comm _ _)] at s1
  rw [(sameE_rep c1 p3).2 rfl] at s2
  rw [(sameE_rep q1 q2).2 rfl] at s3
  rw [(sameE_rep q3 rep_none).2 rfl] at s4
  rw [same_zero, (sameE_rep c3 rep_none).2 (Cv.add_neg _)] at s5
  rw [(sameE_rep c4 p1).2 rfl] at s6
  have e1 := fCvEncode_spec zeroE
  have e2 := fCvEncode_spec noneE
  rw [aff_zero] at e1
  have l3 := enc32_len (affE noneE).1 (affE noneE).2
  generalize enc32 (affE noneE).1 (affE noneE).2 = eb at *
  clear p1 p2 p3 q1 q2 q3 c1 c2 c3 c4
  rw [ptL2] at a1 a2 a3 a4
  generalize addE [p, q] = y1 at *
  generalize addE [q, p] = y2 at *
  generalize addE [p, negE p] = y3 at *
  generalize addE [zeroE, p] = y4 at *
  generalize negE p = np at *
  generalize noneE = O at *
  generalize atE (toF baseX) (toF baseY) = B at *
  rw [ptC_zero] at a4 s5 e1
  generalize Lq = L at *
  simp only [ptC, List.append_assoc] at hBs t1 t2 t3 u1 u2 u3 a1 a2 a3 a4 hN hO1 s1 s2 s3 s4 s5 s6 e2
  refine FSpec.of_W (c := .seq (.reg fCvLaws_r0) (.seq (.seq (.reg fCvLaws_r1) (.cond (.t 13) fCvLaws_k0 (.kill [13] .skip))) (.keep [2, 3] (.seq (.drawP 2 2 fCvLaws_r3) (.cut (.seq (.drawP 4 2 fCvLaws_r4) (.seq (.drawP 6 2 fCvLaws_r5) (.seq (.reg fCvLaws_r6) (.seq (.draw fCvLaws_r7) .ret))))))))) fCvLaws_low (by simp) ?_
  simp only [initEnv]
  simp [q4]
  refine WO_callP [] rfl rfl hLv (by simp) (by simp) ?_
  simp
  refine WO_callQ rfl b1 (by simp [q4]) ?_
  simp [q4]
  refine WO_callQ rfl b2 (by simp [q4]) ?_
  simp [q4, l1, l2]
  refine W_cut (cut_trans (cut_frz 2 rfl) (cut_frz 3 rfl)) ?_
  simp [l1, l2, k1, k2]
  refine WO_callQ rfl r1 (by simp [q4]) ?_
  simp [q4, l1, l2, k1, k2]
  refine WO_callQ rfl r2 (by simp [q4]) ?_
  simp [q4, l1, l2, k1, k2]
  refine WO_callQ rfl hBs (by simp [q4]) ?_
  simp [q4]
  refine WO_callQ rfl t1 (by simp [q4]) ?_
  simp [q4]
  refine WO_callQ rfl hBs (by simp [q4]) ?_
  simp [q4]
  refine WO_callQ rfl t2 (by simp [q4]) ?_
  simp [q4]
  refine WO_callP [] rfl rfl a1 (by simp [q4]) (by simp [q4]) ?_
  simp [q4, l3, hk32]
  refine WO_callP [] rfl rfl a2 (by simp [q4]) (by simp [q4]) ?_
  simp [q4, l3, hk32]
  refine WO_callP [] rfl rfl s1 (by simp [q4]) (by simp [q4]) ?_
  simp [q4, l3, hk32]
  refine WO_callP [] rfl rfl a1 (by simp [q4]) (by simp [q4]) ?_
  simp [q4, l3, hk32]
  refine WO_callP [] rfl rfl hBs (by simp [q4]) (by simp [q4]) ?_
  simp [q4, l3, hk32]
  refine WO_callP [] rfl rfl hA (by simp [q4]) (by simp [q4]) ?_
  simp [q4, l3, hk32]
  refine WO_callP [] rfl rfl t3 (by simp [q4]) (by simp [q4]) ?_
  simp [q4, l3, hk32]
  refine WO_callP [] rfl rfl s2 (by simp [q4]) (by simp [q4]) ?_
  simp [q4, l3, hk32]
  refine WO_callP [] rfl rfl u1 (by simp [q4]) (by simp [q4]) ?_
  simp [q4, l3, hk32]
  refine WO_callP [] rfl rfl u2 (by simp [q4]) (by simp [q4]) ?_
  simp [q4, l3, hk32]
  refine WO_callP [] rfl rfl s3 (by simp [q4]) (by simp [q4]) ?_
  simp [q4, l3, hk32]
  refine WO_callP [] rfl rfl hO (by simp [q4]) (by simp [q4]) ?_
  simp [q4, l3, hk32]
  refine WO_callP [] rfl rfl u3 (by simp [q4]) (by simp [q4]) ?_
  simp [q4, l3, hk32]
  refine WO_callP [] rfl rfl hO1 (by simp [q4]) (by simp [q4]) ?_
  simp [q4, l3, hk32]
  refine WO_callP [] rfl rfl s4 (by simp [q4]) (by simp [q4]) ?_
  simp [q4, l3, hk32]
  refine WO_callP [] rfl rfl hN (by simp [q4]) (by simp [q4]) ?_
  simp [q4, l3, hk32]
  refine WO_callP [] rfl rfl a3 (by simp [q4]) (by simp [q4]) ?_
  simp [q4, l3, hk32]
  refine WO_callP [] rfl rfl s5 (by simp [q4]) (by simp [q4]) ?_
  simp [q4, l3, hk32]
  refine WO_callP [] rfl rfl a4 (by simp [q4]) (by simp [q4]) ?_
  simp [q4, l3, hk32]
  refine WO_callP [] rfl rfl s6 (by simp [q4]) (by simp [q4]) ?_
  simp [q4, l3, hk32]
  refine WO_callP [] rfl rfl e1 (by simp [q4]) (by simp [q4]) ?_
  simp [q4, l3, hk32]
  refine WO_callP [] rfl rfl hO1 (by simp [q4]) (by simp [q4]) ?_
  simp [q4, l3, hk32]
  refine WO_callP [] rfl rfl e2 (by simp [q4]) (by simp [q4]) ?_
  simp [q4, l3, hk32]
  exact fin_W (by simp)
set_option maxRecDepth 100000 in
theorem fCurveRules_law : ∀ args, AllFit Try.prog 8 Try.f8.params.toList args → FSpec Try.prog 8 args [] (.bool true) [] := by
  intro args has
  rw [show Try.f8.params.toList = [48, 48] from by rw [Try.params8]] at has
  obtain ⟨a, as1, rfl, h1, has⟩ := all_cons has
  obtain ⟨b, as2, rfl, h2, has⟩ := all_cons has
  cases all_nil has
  obtain ⟨x, hx, rfl⟩ := fit_q4 Try.underlying48 Try.underlying47 h1
  obtain ⟨y, hy, rfl⟩ := fit_q4 Try.underlying48 Try.underlying47 h2
  exact fCurveRules_spec x y hx hy
end Go.Proofs.Ythgibibeoapfbaa
