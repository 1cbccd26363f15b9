/-
  curve sums
-/
import Derived.Test.YthgibibeoapfbaaeV9
set_option linter.unusedSimpArgs false
set_option linter.unnecessarySimpa false
set_option linter.unusedVariables false
set_option linter.unusedSectionVars false
namespace Go.Proofs.Ythgibibeoapfbaa
open Go Go.Fw
attribute [local simp] bv cleanL_bv toBytes_bv ltL_bv atF_drop WS_at_bytes W_nil W_skip W_seq W_reg W_draw W_drawP W_kill W_keep W_block W_blk W_exit W_ret WX_blk WX_c WX_lp WX_li W_li W_condT W_condF W_cond WC_true WC_false
  WR_nil WR_cons WR_o1 WR_o2 o1_chk o2_chk WR_grd WG_tt WG_ff WG_tf WG_ft WG_none WS_some WS_ok1 WSr_no WSr_some WSr_ok1 WSr_at_bytes WH_some WHA_some chkF_cons chkF_nil chkE_some chkE_ok1 chkE_at evF WO_mv WO_pick WO_bin WO_isNil WO_eqA WO_un WO_convI WO_toStr WO_ofStr WO_build WO_buildF WO_load WO_nilCheck WO_fieldAddr WO_field WO_idxA WO_idxS
  WO_ixA WO_slS WO_slA WO_len WO_lenK WO_appF WO_extract WO_s2a WO_iface WO_min WO_max WO_alloc WO_box WO_buildO WO_store WO_appO WO_copy WO_makeS WO_allocA WO_makeA WO_cvt cvtF_slice WO_look lookF_map alAF mkAF WO_func bind1_v bind2_v bindH_v bindH2_v bindS_v okO_v pickO_t pickO_f
  Env.keep Env.get Env.set Env.del Env.dels Env.setO Env.opd Env.opds Env.opdO Env.parts intF aggF fillA splice cleanL AV.clean bndF fldF_one fldF_many toStrF boxF buildOF
  loadF_rptr loadF_rptrN atF_zero atF_succ blk_cons_zero blk_cons_succ loadF_p loadF_pN atB_some atBN_some retPost resL one
  okc_bool cells_bool notStr_bool okc_int cells_int notStr_int okc_str cells_str notStr_str okc_nil cells_nil notStr_nil okc_ptr cells_ptr notStr_ptr okc_rptr cells_rptr notStr_rptr okc_slice cells_slice notStr_slice 
  okc_list cells_list notStr_list okc_func cells_func notStr_func okc_nilFunc cells_nilFunc notStr_nilFunc okc_iface cells_iface notStr_iface okc_nilIface cells_nilIface notStr_nilIface okc_agg cells_agg notStr_agg 
  okc_tuple cells_tuple notStr_tuple lenF_slice lenF_list lenF_str faF_ptr faF_rptr idxSF_slice idxSF_list idxAF_ptr idxAF_rptr ixAF_many ixAF_one convF_int unF_neg unF_xor unF_not nilF_0nil nilF_0ptr nilF_0rptr nilF_1 
  nilF_2nil nilF_2f nilF_3nil nilF_3f binF_int binF_beq binF_bne binF_sadd binF_seq binF_sne sliceCells_list sliceCells_str sliceCells_slice cutC_some szAV_list szAV_str szAV_slice oneSl_list oneSl_slice slSF_sliceS 
  slSF_sliceN slSF_list slAF_rptr slAF_ptr appFF_list appOF_list appOF_sliceN appOF_sliceS storeF_ptr copyF_slice extF_tuple s2aF_slice s2aF_list nchkF_ptr nchkF_rptr nchkF_f mmF_int ofStrF_str mkSF_int eqAF_agg
attribute [local irreducible] W WX WR WO WS WSr WH WHA WG WC FSpec
attribute [local simp] lendAll
attribute [local congr] W_cg WR_cg WO_cg WS_cg WSr_cg WH_cg WHA_cg WG_cg WC_cg WX_cg
attribute [local simp] Env.has AV.wkr wkrL AV.wkr_refl wkrL_refl AV.ltI ltL leHW hasW Env.lt AV.ids idsL AV.sub subL AV.ren AV.frz frzS frzP frzE frzL Heap.frz Blk.frz Blk.ren renL rnS rnP hasR leR idsL_bv subL_bv
attribute [local simp] cleanL_take cleanL_drop ltL_take ltL_drop idsL_take idsL_drop subL_take subL_drop cleanL_append ltL_append idsL_append subL_append
attribute [local simp] renE mvN mvH
attribute [local simp] fwd backH putL bwd
attribute [local simp] u8i u8e List.idxOf_cons
attribute [local simp] hasRW leRW
attribute [local simp] WS_at_map WSr_at_map loadWP splice_full Int.natCast_inj q17_d q17_t q17_t0 q17_d34 q17_t51 q17_s0 q17_s17 q17_s34 hk17
noncomputable def pB (n : Nat) : Cv.EP Fp := timesE (wholeE (atE (toF baseX) (toF baseY))) n 256
def mB (n : Nat) : Cv.RP Fp := timesR ⟨toF baseX, toF baseY, 1⟩ n (toF dP) 256
theorem pB_rep {n : Nat} (hn : n < 2 ^ 256) : Cv.Rep (pB n) (Cv.smul n P0) := times256 (rep_at P0) hn
theorem mB_rep {n : Nat} (hn : n < 2 ^ 256) : Cv.RRep (mB n) (Cv.smul n P0) := timesR256 (rrep_at P0) hn
set_option maxRecDepth 100000 in
set_option maxHeartbeats 2000000 in
theorem fCvPoints_spec (n : Nat) : FSpec Try.prog 31 [.agg (q4 n)] [] (.tuple [.agg (ptC (pB n)), .agg (rpC (mB n))]) [] := by
  have hb := fCvBase_spec
  have hr := fRCvBase_spec
  have hD := fRCvD_spec
  have t1 := fCvTimes_spec (atE (toF baseX) (toF baseY)) n
  have t2 := fRCvTimes_spec ⟨toF baseX, toF baseY, 1⟩ n (toF dP)
  rw [show timesE (wholeE (atE (toF baseX) (toF baseY))) n 256 = pB n from rfl] at t1
  rw [show timesR ⟨toF baseX, toF baseY, 1⟩ n (toF dP) 256 = mB n from rfl] at t2
  generalize pB n = p at *
  generalize mB n = m at *
  generalize atE (toF baseX) (toF baseY) = B at *
  generalize (⟨toF baseX, toF baseY, 1⟩ : Cv.RP Fp) = B2 at *
  generalize toF dP = d at *
  simp only [ptC] at hb t1 ⊢
  simp only [rpC] at hr t2 ⊢
  refine FSpec.of_W fCvPoints_low (by simp) ?_
  simp only [initEnv]
  simp [q4]
  refine WO_callP [] rfl rfl hb (by simp [q4]) (by simp [q4]) ?_
  simp [q4]
  refine WO_callP [] rfl rfl t1 (by simp [q4]) (by simp [q4]) ?_
  simp [q4]
  refine WO_callP [] rfl rfl hr (by simp) (by simp [q4]) ?_
  simp [q4]
  refine WO_callP [] rfl rfl hD (by simp) (by simp [q4]) ?_
  simp [q4]
  refine WO_callP [] rfl rfl t2 (by simp [q4]) (by simp) ?_
  simp [q4]
  exact fin_W (by simp [q4])
theorem addE_nil : addE [] = noneE := rfl
theorem add4_rep {p q : Cv.EP Fp} {P Q : Cv.Pt FP} (hp : Cv.Rep p P) (hq : Cv.Rep q Q) : Cv.Rep (addE [p, q, negE q, q]) (Cv.add P Q) := by
  have hn := neg_rep hq
  have h1 := Cv.sum_rep rep_none hp
  rw [Cv.zero_add] at h1
  have h2 := Cv.sum_rep h1 hq
  have h3 := Cv.sum_rep h2 hn
  rw [Cv.add_assoc, Cv.add_neg, Cv.add_zero] at h3
  have h4 := Cv.sum_rep h3 hq
  unfold addE
  simp only [List.foldl_cons, List.foldl_nil]
  rw [whole_rep hp, whole_rep hq, whole_rep hn]
  exact h4
theorem bool_eq {a b : Bool} {p : Prop} (h1 : a = true ↔ p) (h2 : b = true ↔ p) : a = b := by
  cases a <;> cases b <;> simp_all
set_option maxRecDepth 100000 in
set_option maxHeartbeats 4000000 in
theorem fCurveSums_spec (a b : Nat) (ha : a < 2 ^ 256) (hb : b < 2 ^ 256) : FSpec Try.prog 7 [.agg (q4 a), .agg (q4 b)] [] (.bool true) [] := by
  have h1 := fCvPoints_spec a
  have h2 := fCvPoints_spec b
  have rp := pB_rep ha
  have rq := pB_rep hb
  have rm := mB_rep ha
  have rn := mB_rep hb
  generalize pB a = p at *
  generalize pB b = q at *
  generalize mB a = m at *
  generalize mB b = n at *
  generalize Cv.smul a P0 = P at *
  generalize Cv.smul b P0 = Q at *
  have hng := fCvNeg_spec q
  have hnp := fCvNeg_spec p
  have had := fCvAdd_spec [p, q, negE q, q] ⟨false, true, false⟩ (by simp)
  have hra := fRCvAdd_spec m n (toF dP)
  have hrn := fRCvNeg_spec m
  have rx := add4_rep rp rq
  have ry : Cv.RRep (Cv.addR (toF dP) m n) (Cv.add P Q) := Cv.addR_rep rm rn
  have rnp := neg_rep rp
  have rnm := negR_rep rm
  have hsE := fCvSame_spec p q
  have hsR := fRCvSame_spec m n
  rw [bool_eq (sameE_rep rp rq) (sameR_rep rm rn)] at hsE
  have had0 := fCvAdd_spec [] ⟨true, true, false⟩ (by simp)
  rw [addE_nil] at had0
  have hno := fCvNone_spec
  have hs0 := fCvSame_spec noneE noneE
  rw [(sameE_rep rep_none rep_none).2 rfl] at hs0
  have e1 := fCvEncode_spec p
  have e2 := fRCvEncode_spec m
  have e3 := fCvEncode_spec (addE [p, q, negE q, q])
  have e4 := fRCvEncode_spec (Cv.addR (toF dP) m n)
  have e5 := fCvEncode_spec (negE p)
  have e6 := fRCvEncode_spec ⟨-m.x, m.y, m.z⟩
  rw [aff_rep rp] at e1
  rw [affR_rep rm] at e2
  rw [aff_rep rx] at e3
  rw [affR_rep ry] at e4
  rw [aff_rep rnp] at e5
  rw [affR_rep rnm] at e6
  simp only at e1 e2 e3 e4 e5 e6
  have l1 := enc32_len P.x P.y
  have l2 := enc32_len (Cv.add P Q).x (Cv.add P Q).y
  have l3 := enc32_len (Cv.neg P).x (Cv.neg P).y
  generalize enc32 P.x P.y = b1 at *
  generalize enc32 (Cv.add P Q).x (Cv.add P Q).y = b2 at *
  generalize enc32 (Cv.neg P).x (Cv.neg P).y = b3 at *
  have hD := fRCvD_spec
  clear rp rq rm rn rx ry rnp rnm
  rw [show ptL [p, q, negE q, q] = ptC p ++ (ptC q ++ (ptC (negE q) ++ ptC q)) by simp [ptL]] at had
  rw [show ptL [] = [] from rfl] at had0
  generalize addE [p, q, negE q, q] = x at *
  generalize Cv.addR (toF dP) m n = y at *
  generalize negE q = nq at *
  generalize negE p = np at *
  generalize (⟨-m.x, m.y, m.z⟩ : Cv.RP Fp) = nm at *
  generalize toF dP = d at *
  generalize sameR m n = sm at *
  generalize noneE = O at *
  simp only [ptC, List.append_assoc] at h1 h2 hng hnp had hsE had0 hno hs0 e1 e3 e5
  simp only [rpC] at h1 h2 hra hrn hsR e2 e4 e6
  have had1 : FSpec Try.prog 32 [.list 1 ⟨true, true, false⟩ []] [] (.agg (q4 (fv O.x) ++ (q4 (fv O.y) ++ (q4 (fv O.z) ++ q4 (fv O.t))))) [] := FSpec.wk (by simp) had0
  refine FSpec.of_W fCvSums_low (by simp) ?_
  simp only [initEnv]
  simp [q4]
  refine WO_callP [] rfl rfl fCvLives_spec (by simp) (by simp) ?_
  simp
  refine WO_callP [] rfl rfl h1 (by simp [q4]) (by simp) ?_
  simp [q4]
  refine WO_callP [] rfl rfl h2 (by simp [q4]) (by simp) ?_
  simp [q4]
  refine WO_callQ rfl hng (by simp [q4]) ?_
  simp [q4]
  refine WO_callQ rfl had (by simp [q4]) ?_
  simp [q4]
  refine WO_callQ rfl hD (by simp) ?_
  simp [q4]
  refine WO_callQ rfl hra (by simp) ?_
  simp [q4]
  refine WO_callP [] rfl rfl e1 (by simp [q4]) (by simp [q4]) ?_
  simp [q4]
  refine WO_callP [] rfl rfl e2 (by simp) (by simp [q4]) ?_
  simp [q4, l1, hk32]
  refine WO_callP [] rfl rfl e3 (by simp [q4]) (by simp [q4]) ?_
  simp [q4]
  refine WO_callP [] rfl rfl e4 (by simp) (by simp [q4]) ?_
  simp [q4, l2, hk32]
  refine WO_callP [] rfl rfl hnp (by simp [q4]) (by simp [q4]) ?_
  simp [q4]
  refine WO_callP [] rfl rfl e5 (by simp [q4]) (by simp [q4]) ?_
  simp [q4]
  refine WO_callP [] rfl rfl hrn (by simp) (by simp [q4]) ?_
  simp [q4]
  refine WO_callP [] rfl rfl e6 (by simp) (by simp [q4]) ?_
  simp [q4, l3, hk32]
  refine WO_callP [] rfl rfl hsE (by simp [q4]) (by simp [q4]) ?_
  simp [q4]
  refine WO_callP [] rfl rfl hsR (by simp) (by simp [q4]) ?_
  simp [q4]
  refine WO_callP [] rfl rfl had1 (by simp [q4]) (by simp [q4]) ?_
  simp [q4]
  refine WO_callP [] rfl rfl hno (by simp [q4]) (by simp [q4]) ?_
  simp [q4]
  refine WO_callP [] rfl rfl hs0 (by simp [q4]) (by simp [q4]) ?_
  simp
  exact fin_W (by simp)
set_option maxRecDepth 100000 in
theorem fCurveSums_law : ∀ args, AllFit Try.prog 8 Try.f7.params.toList args → FSpec Try.prog 7 args [] (.bool true) [] := by
  intro args has
  rw [show Try.f7.params.toList = [48, 48] from by rw [Try.params7]] at has
  obtain ⟨a, as1, rfl, h1, has⟩ := all_cons has
  obtain ⟨b, as2, rfl, h2, has⟩ := all_cons has
  cases all_nil has
  obtain ⟨x, hx, rfl⟩ := fit_q4 Try.underlying48 Try.underlying47 h1
  obtain ⟨y, hy, rfl⟩ := fit_q4 Try.underlying48 Try.underlying47 h2
  exact fCurveSums_spec x y hx hy
end Go.Proofs.Ythgibibeoapfbaa
