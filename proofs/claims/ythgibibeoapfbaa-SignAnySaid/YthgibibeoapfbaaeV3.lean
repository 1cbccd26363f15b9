/-
  Texts that belong together.
-/
import Derived.Test.YthgibibeoapfbaaE2
import Derived.Test.YthgibibeoapfbaaeV1
set_option linter.unusedSimpArgs false
set_option linter.unnecessarySimpa false
set_option linter.unusedVariables false
set_option linter.unusedSectionVars false
/-
  Points as bytes.
-/
namespace Go.Proofs.Ythgibibeoapfbaa
open Go Go.Fw
attribute [local simp] bv cleanL_bv toBytes_bv ltL_bv atF_drop WS_at_bytes W_nil W_skip W_seq W_reg W_draw W_drawP W_kill W_keep W_block W_blk W_exit W_ret WX_blk WX_c WX_lp WX_li W_li W_condT W_condF W_cond WC_true WC_false
  WR_nil WR_cons WR_o1 WR_o2 o1_chk o2_chk WR_grd WG_tt WG_ff WG_tf WG_ft WG_none WS_some WS_ok1 WSr_no WSr_some WSr_ok1 WSr_at_bytes WH_some WHA_some chkF_cons chkF_nil chkE_some chkE_ok1 chkE_at evF WO_mv WO_pick WO_bin WO_isNil WO_eqA WO_un WO_convI WO_toStr WO_ofStr WO_build WO_buildF WO_load WO_nilCheck WO_fieldAddr WO_field WO_idxA WO_idxS
  WO_ixA WO_slS WO_slA WO_len WO_lenK WO_appF WO_extract WO_s2a WO_iface WO_min WO_max WO_alloc WO_box WO_buildO WO_store WO_appO WO_copy WO_makeS WO_allocA WO_makeA WO_cvt cvtF_slice WO_look lookF_map alAF mkAF WO_func bind1_v bind2_v bindH_v bindH2_v bindS_v okO_v pickO_t pickO_f
  Env.keep Env.get Env.set Env.del Env.dels Env.setO Env.opd Env.opds Env.opdO Env.parts intF aggF fillA splice cleanL AV.clean bndF fldF_one fldF_many toStrF boxF buildOF
  loadF_rptr loadF_rptrN atF_zero atF_succ blk_cons_zero blk_cons_succ loadF_p loadF_pN atB_some atBN_some retPost resL one
  okc_bool cells_bool notStr_bool okc_int cells_int notStr_int okc_str cells_str notStr_str okc_nil cells_nil notStr_nil okc_ptr cells_ptr notStr_ptr okc_rptr cells_rptr notStr_rptr okc_slice cells_slice notStr_slice 
  okc_list cells_list notStr_list okc_func cells_func notStr_func okc_nilFunc cells_nilFunc notStr_nilFunc okc_iface cells_iface notStr_iface okc_nilIface cells_nilIface notStr_nilIface okc_agg cells_agg notStr_agg 
  okc_tuple cells_tuple notStr_tuple lenF_slice lenF_list lenF_str faF_ptr faF_rptr idxSF_slice idxSF_list idxAF_ptr idxAF_rptr ixAF_many ixAF_one convF_int unF_neg unF_xor unF_not nilF_0nil nilF_0ptr nilF_0rptr nilF_1 
  nilF_2nil nilF_2f nilF_3nil nilF_3f binF_int binF_beq binF_bne binF_sadd binF_seq binF_sne sliceCells_list sliceCells_str sliceCells_slice cutC_some szAV_list szAV_str szAV_slice oneSl_list oneSl_slice slSF_sliceS 
  slSF_sliceN slSF_list slAF_rptr slAF_ptr appFF_list appOF_list appOF_sliceN appOF_sliceS storeF_ptr copyF_slice extF_tuple s2aF_slice s2aF_list nchkF_ptr nchkF_rptr nchkF_f mmF_int ofStrF_str mkSF_int eqAF_agg
attribute [local irreducible] W WX WR WO WS WSr WH WHA WG WC FSpec
attribute [local simp] lendAll
attribute [local congr] W_cg WR_cg WO_cg WS_cg WSr_cg WH_cg WHA_cg WG_cg WC_cg WX_cg
attribute [local simp] Env.has AV.wkr wkrL AV.wkr_refl wkrL_refl AV.ltI ltL leHW hasW Env.lt AV.ids idsL AV.sub subL AV.ren AV.frz frzS frzP frzE frzL Heap.frz Blk.frz Blk.ren renL rnS rnP hasR leR idsL_bv subL_bv
attribute [local simp] cleanL_take cleanL_drop ltL_take ltL_drop idsL_take idsL_drop subL_take subL_drop cleanL_append ltL_append idsL_append subL_append
attribute [local simp] renE mvN mvH
attribute [local simp] fwd backH putL bwd
attribute [local simp] u8i u8e List.idxOf_cons
attribute [local simp] hasRW leRW
attribute [local simp] WS_at_map WSr_at_map loadWP splice_full Int.natCast_inj
/-- The point of a number of bytes. -/
noncomputable def decE (N : Nat) : Option (Fp × Fp) :=
  if N % 2 ^ 255 < p25 then
    let y := toF (N % 2 ^ 255)
    let q := (y * y - 1) * invF (1 + toF dP * (y * y))
    let x := toF (rootF (fv q)).1
    if (rootF (fv q)).2 = false ∨ (2 ^ 255 ≤ N ∧ x = 0) then none else some (if 2 ^ 255 ≤ N then -x else x, y)
  else none
theorem root1 (q : Fp) : FSpec Try.prog 68 [.agg (q4 (fv q))] [] (.tuple [.agg (q4 (fv (toF (rootF (fv q)).1))), .bool (rootF (fv q)).2]) [] := by
  have h := fFdRoot_spec (fv q) (fv_lt q)
  rw [toF_lt]
  · exact h
  · cases hr : (rootF (fv q)).2 with
    | true => exact (rootF_yes hr).2.1
    | false => rw [rootF_no hr]; exact p25_pos
set_option maxRecDepth 100000 in
set_option maxHeartbeats 4000000 in
theorem fCvDecode_spec (l : List UInt8) (hl : l.length = 32) : FSpec Try.prog 24 [.agg (l.map bv)] [] (match decE (byN l) with | none => .tuple [.agg (ptC zeroE), .int .i64 7] | some (x, y) => .tuple [.agg (ptC (atE x y)), .int .i64 0]) [] := by
  obtain ⟨b, hb, hb1, hb2⟩ := byN_top hl
  obtain ⟨R, hR⟩ : ∃ R, R = decE (byN l) := ⟨_, rfl⟩
  rw [← hR]
  unfold decE at hR
  have hNlt : byN l < 2 ^ 256 := by have := byN_lt l; rw [hl] at this; exact this
  obtain ⟨N, hN⟩ : ∃ N, N = byN l := ⟨_, rfl⟩
  rw [← hN] at hb1 hb2 hR hNlt
  have hge : l[31]'(by omega) = b := by rw [List.getElem?_eq_getElem (by omega)] at hb; exact Option.some.inj hb
  have hblt := b.toNat_lt
  obtain ⟨b2, hb2e⟩ : ∃ b2, b2 = UInt8.ofNat (b.toNat % 128) := ⟨_, rfl⟩
  have hand : bitI .and .u8 (b.toNat : Int) 127 = (b2.toNat : Int) := by
    rw [hb2e, show (127 : Int) = ((127 : Nat) : Int) from rfl, bitI_and rfl (show b.toNat < 2 ^ 8 by omega) (show 127 < 2 ^ 8 by decide), show (127 : Nat) = 2 ^ 7 - 1 from rfl, Nat.and_two_pow_sub_one_eq_mod, UInt8.toNat_ofNat']
    congr 1; omega
  have hshr : (b.toNat : Int).fdiv 128 = ((b.toNat / 128 : Nat) : Int) := by rw [show (128 : Int) = 2 ^ 7 from rfl]; exact shr_nat _ _
  rw [← hb2e] at hb2
  have hodd : (b.toNat / 128 = 1) = (2 ^ 255 ≤ N) := by rw [hb1]; apply propext; omega
  obtain ⟨o, ho⟩ : ∃ o, o = b.toNat / 128 := ⟨_, rfl⟩
  rw [← ho] at hshr hodd
  have hlen2 : (l.set 31 b2).length = 32 := by rw [List.length_set, hl]
  have hdec := fFdDecode_spec (l.set 31 b2) hlen2
  rw [hb2] at hdec
  have hset : (l.map bv).set 31 (.int .u8 (b2.toNat : Int)) = (l.set 31 b2).map bv := by rw [List.map_set]; rfl
  generalize l.set 31 b2 = l2 at *
  refine FSpec.of_W fCvDecode_low (by simp) ?_
  simp only [initEnv]
  simp [hl, hge, hand, hshr, hset, hlen2, IntKind.bits, List.take_of_length_le]
  by_cases c1 : N % 2 ^ 255 < p25
  rotate_left
  · rw [if_neg c1] at hR
    rw [hR]
    rw [decP, if_neg c1] at hdec
    refine WO_callP [] rfl rfl hdec (by simp [q4]) (by simp) ?_
    simp [q4]
    exact fin_W (by simp [ptC, q4, zeroE, wd00])
  rw [if_pos c1] at hR
  rw [decP, if_pos c1, ← toF_lt c1] at hdec
  generalize toF (N % 2 ^ 255) = y at *
  have hD := fCvD_spec
  simp only at hR
  have hroot := root1 ((y * y - 1) * invF (1 + toF dP * (y * y)))
  have hneg := fNeg1 (toF (rootF (fv ((y * y - 1) * invF (1 + toF dP * (y * y))))).1)
  have hi := fInv1 (1 + toF dP * (y * y))
  generalize toF dP = d at *
  refine WO_callP [] rfl rfl hdec (by simp [q4]) (by simp) ?_
  simp [q4]
  refine WO_callQ rfl fSmall1 (by simp [q4]) ?_
  simp [q4]
  refine WO_callQ rfl (fMul2 y y ⟨false, true, false⟩) (by simp [q4]) ?_
  generalize y * y = y2 at *
  simp [q4]
  refine WO_callP [] rfl rfl (fSub2 y2 1) (by simp [q4]) (by simp) ?_
  simp [q4]
  refine WO_callQ rfl hD (by simp [q4]) ?_
  simp [q4]
  refine WO_callQ rfl (fMul2 d y2 ⟨false, true, false⟩) (by simp [q4]) ?_
  simp [q4]
  refine WO_callQ rfl (fAdd2 1 (d * y2) ⟨false, true, false⟩) (by simp [q4]) ?_
  simp [q4]
  refine WO_callQ rfl hi (by simp [q4]) ?_
  simp [q4]
  refine WO_callQ rfl (fMul2 (y2 - 1) (invF (1 + d * y2)) ⟨false, true, false⟩) (by simp [q4]) ?_
  generalize (y2 - 1) * invF (1 + d * y2) = q at *
  simp [q4]
  refine WO_callQ rfl hroot (by simp [q4]) ?_
  generalize toF (rootF (fv q)).1 = x at *
  generalize (rootF (fv q)).2 = ok at *
  simp [q4]
  cases ok with
  | false =>
    rw [if_pos (.inl rfl)] at hR
    rw [hR]
    simp
    exact fin_W (by simp [ptC, q4, zeroE, wd00])
  | true =>
    by_cases ho1 : o = 1
    · have hge2 : 2 ^ 255 ≤ N := hodd ▸ ho1
      by_cases hx0 : x = 0
      · rw [if_pos (.inr ⟨hge2, hx0⟩)] at hR
        rw [hR]
        subst hx0
        simp [ho1, wd00, hasK, ints]
        exact fin_W (by simp [ptC, q4, zeroE, wd00])
      · rw [if_neg (fun z => z.elim (by simp) fun w => hx0 w.2), if_pos hge2] at hR
        rw [hR]
        have hz := wdz x
        have hat := fCvAt_spec (-x) y
        generalize -x = nx at *
        simp only [ptC, atE] at hat ⊢
        simp [ho1, hasK, ints]
        refine WC_b (fun h => ?_) (fun h => ?_)
        · exfalso
          simp only [Bool.and_eq_true, decide_eq_true_eq] at h
          exact hx0 (hz ▸ h)
        · simp
          refine WO_callP [] rfl rfl hneg (by simp [q4]) (by simp) ?_
          simp [q4]
          refine WO_callP [] rfl rfl hat (by simp [q4]) (by simp) ?_
          simp [q4]
          exact fin_W (by simp [q4])
    · have hge2 : ¬ 2 ^ 255 ≤ N := fun z => ho1 (hodd.symm ▸ z)
      rw [if_neg (fun z => z.elim (by simp) fun w => hge2 w.1), if_neg hge2] at hR
      rw [hR]
      have hat := fCvAt_spec x y
      simp only [ptC, atE] at hat ⊢
      have ho1' : ¬ (o : Int) = 1 := by omega
      simp [ho1, ho1']
      refine WO_callP [] rfl rfl hat (by simp [q4]) (by simp) ?_
      simp [q4]
      exact fin_W (by simp [q4])
end Go.Proofs.Ythgibibeoapfbaa

/-
  The document's points.
-/
namespace Go.Proofs.Ythgibibeoapfbaa
open Go Go.Fw
attribute [local simp] bv cleanL_bv toBytes_bv ltL_bv atF_drop WS_at_bytes W_nil W_skip W_seq W_reg W_draw W_drawP W_kill W_keep W_block W_blk W_exit W_ret WX_blk WX_c WX_lp WX_li W_li W_condT W_condF W_cond WC_true WC_false
  WR_nil WR_cons WR_o1 WR_o2 o1_chk o2_chk WR_grd WG_tt WG_ff WG_tf WG_ft WG_none WS_some WS_ok1 WSr_no WSr_some WSr_ok1 WSr_at_bytes WH_some WHA_some chkF_cons chkF_nil chkE_some chkE_ok1 chkE_at evF WO_mv WO_pick WO_bin WO_isNil WO_eqA WO_un WO_convI WO_toStr WO_ofStr WO_build WO_buildF WO_load WO_nilCheck WO_fieldAddr WO_field WO_idxA WO_idxS
  WO_ixA WO_slS WO_slA WO_len WO_lenK WO_appF WO_extract WO_s2a WO_iface WO_min WO_max WO_alloc WO_box WO_buildO WO_store WO_appO WO_copy WO_makeS WO_allocA WO_makeA WO_cvt cvtF_slice WO_look lookF_map alAF mkAF WO_func bind1_v bind2_v bindH_v bindH2_v bindS_v okO_v pickO_t pickO_f
  Env.keep Env.get Env.set Env.del Env.dels Env.setO Env.opd Env.opds Env.opdO Env.parts intF aggF fillA splice cleanL AV.clean bndF fldF_one fldF_many toStrF boxF buildOF
  loadF_rptr loadF_rptrN atF_zero atF_succ blk_cons_zero blk_cons_succ loadF_p loadF_pN atB_some atBN_some retPost resL one
  okc_bool cells_bool notStr_bool okc_int cells_int notStr_int okc_str cells_str notStr_str okc_nil cells_nil notStr_nil okc_ptr cells_ptr notStr_ptr okc_rptr cells_rptr notStr_rptr okc_slice cells_slice notStr_slice 
  okc_list cells_list notStr_list okc_func cells_func notStr_func okc_nilFunc cells_nilFunc notStr_nilFunc okc_iface cells_iface notStr_iface okc_nilIface cells_nilIface notStr_nilIface okc_agg cells_agg notStr_agg 
  okc_tuple cells_tuple notStr_tuple lenF_slice lenF_list lenF_str faF_ptr faF_rptr idxSF_slice idxSF_list idxAF_ptr idxAF_rptr ixAF_many ixAF_one convF_int unF_neg unF_xor unF_not nilF_0nil nilF_0ptr nilF_0rptr nilF_1 
  nilF_2nil nilF_2f nilF_3nil nilF_3f binF_int binF_beq binF_bne binF_sadd binF_seq binF_sne sliceCells_list sliceCells_str sliceCells_slice cutC_some szAV_list szAV_str szAV_slice oneSl_list oneSl_slice slSF_sliceS 
  slSF_sliceN slSF_list slAF_rptr slAF_ptr appFF_list appOF_list appOF_sliceN appOF_sliceS storeF_ptr copyF_slice extF_tuple s2aF_slice s2aF_list nchkF_ptr nchkF_rptr nchkF_f mmF_int ofStrF_str mkSF_int eqAF_agg
attribute [local irreducible] W WX WR WO WS WSr WH WHA WG WC FSpec
attribute [local simp] lendAll
attribute [local congr] W_cg WR_cg WO_cg WS_cg WSr_cg WH_cg WHA_cg WG_cg WC_cg WX_cg
attribute [local simp] Env.has AV.wkr wkrL AV.wkr_refl wkrL_refl AV.ltI ltL leHW hasW Env.lt AV.ids idsL AV.sub subL AV.ren AV.frz frzS frzP frzE frzL Heap.frz Blk.frz Blk.ren renL rnS rnP hasR leR idsL_bv subL_bv
attribute [local simp] cleanL_take cleanL_drop ltL_take ltL_drop idsL_take idsL_drop subL_take subL_drop cleanL_append ltL_append idsL_append subL_append
attribute [local simp] renE mvN mvH
attribute [local simp] fwd backH putL bwd
attribute [local simp] u8i u8e List.idxOf_cons
attribute [local simp] hasRW leRW
attribute [local simp] WS_at_map WSr_at_map loadWP splice_full Int.natCast_inj
theorem q17_d (a : Nat) (R : List AV) : List.drop 17 (q17 a ++ R) = R := List.drop_left' (q17_length a)
theorem q17_t (a : Nat) (R : List AV) : List.take 17 (q17 a ++ R) = q17 a := List.take_left' (q17_length a)
theorem q17_t0 (a : Nat) : List.take 17 (q17 a) = q17 a := List.take_of_length_le (by rw [q17_length]; exact Nat.le_refl _)
theorem q17_d34 (a b : Nat) (R : List AV) : List.drop 34 (q17 a ++ (q17 b ++ R)) = R := by
  rw [show 34 = 17 + 17 from rfl, ← List.drop_drop, q17_d, q17_d]
theorem q17_s0 (L : List AV) (a : Nat) (h : 17 ≤ L.length) : splice L 0 (q17 a) = q17 a ++ L.drop 17 := by
  rw [splice_take_drop _ _ _ (by rw [q17_length]; omega), q17_length]
  rfl
theorem q17_s17 (a b : Nat) (R : List AV) (h : 17 ≤ R.length) : splice (q17 a ++ R) 17 (q17 b) = q17 a ++ (q17 b ++ R.drop 17) := by
  rw [splice_take_drop _ _ _ (by rw [List.length_append, q17_length, q17_length]; omega), q17_length, q17_t, List.append_assoc, ← List.drop_drop, q17_d]
theorem q17_s34 (a b c : Nat) (R : List AV) (h : 17 ≤ R.length) : splice (q17 a ++ (q17 b ++ R)) 34 (q17 c) = q17 a ++ (q17 b ++ (q17 c ++ R.drop 17)) := by
  have e1 : List.take 34 (q17 a ++ (q17 b ++ R)) = q17 a ++ q17 b := by
    rw [← List.append_assoc]; exact List.take_left' (by rw [List.length_append, q17_length, q17_length])
  rw [splice_take_drop _ _ _ (by simp only [List.length_append, q17_length]; omega), q17_length, e1, ← List.drop_drop, q17_d34, List.append_assoc, List.append_assoc]
theorem q17_t51 (a b c : Nat) : List.take 51 (q17 a ++ (q17 b ++ q17 c)) = q17 a ++ (q17 b ++ q17 c) := List.take_of_length_le (by simp only [List.length_append, q17_length]; decide)
attribute [local simp] q17_d q17_t q17_t0 q17_d34 q17_t51 q17_s0 q17_s17 q17_s34
def rpC (p : Cv.RP Fp) : List AV := q17 (fv p.x) ++ (q17 (fv p.y) ++ q17 (fv p.z))
theorem rMul (x y : Fp) : FSpec Try.prog 75 [.agg (q17 (fv x)), .agg (q17 (fv y))] [] (.agg (q17 (fv (x * y)))) [] := by
  rw [fv_mul]; exact fQMul_spec _ _ (fv_255 x) (fv_255 y)
theorem rAdd (x y : Fp) : FSpec Try.prog 78 [.agg (q17 (fv x)), .agg (q17 (fv y))] [] (.agg (q17 (fv (x + y)))) [] := by
  rw [fv_add]; exact fQAdd_spec _ _ (fv_255 x) (fv_255 y)
theorem rSub (x y : Fp) : FSpec Try.prog 76 [.agg (q17 (fv x)), .agg (q17 (fv y))] [] (.agg (q17 (fv (x - y)))) [] := by
  rw [fv_sub]; exact fQSub_spec _ _ (fv_lt x) (fv_lt y)
theorem rNeg (x : Fp) : FSpec Try.prog 80 [.agg (q17 (fv x))] [] (.agg (q17 (fv (-x)))) [] := by
  rw [fv_neg]; exact fQNeg_spec _ (fv_lt x)
theorem rInv (x : Fp) : FSpec Try.prog 77 [.agg (q17 (fv x))] [] (.agg (q17 (fv (invF x)))) [] := by
  rw [fv_invF]; exact fQInvert_spec _ (fv_lt x)
theorem rSmall (n : Nat) (h : n ≤ 2 ^ 40) : FSpec Try.prog 74 [.int .i64 (n : Nat)] [] (.agg (q17 (fv (toF n)))) [] := by
  rw [fv_toF]; exact fQSmall_spec n h
def noneR : Cv.RP Fp := ⟨toF 0, toF 1, toF 1⟩
theorem fRCvNone_spec : FSpec Try.prog 88 [] [] (.agg (rpC noneR)) [] := by
  have h0 := rSmall 0 (by decide)
  have h1 := rSmall 1 (by decide)
  unfold rpC noneR
  generalize toF 0 = a at *
  generalize toF 1 = b at *
  refine FSpec.of_W fRCvNone_low (by simp) ?_
  simp only [initEnv]
  simp
  refine WO_callP [] rfl rfl h0 (by simp) (by simp) ?_
  simp
  refine WO_callP [] rfl rfl h1 (by simp) (by simp) ?_
  simp
  refine WO_callP [] rfl rfl h1 (by simp) (by simp) ?_
  simp
  exact fin_W (by simp)
set_option maxRecDepth 100000 in
set_option maxHeartbeats 4000000 in
theorem fRCvAdd_spec (p q : Cv.RP Fp) (d : Fp) : FSpec Try.prog 34 [.agg (rpC p), .agg (rpC q), .agg (q17 (fv d))] [] (.agg (rpC (Cv.addR d p q))) [] := by
  obtain ⟨x1, y1, z1⟩ := p
  obtain ⟨x2, y2, z2⟩ := q
  unfold rpC Cv.addR
  simp only
  refine FSpec.of_W fRCvAdd_low (by simp) ?_
  simp only [initEnv]
  simp
  refine WO_callP [] rfl rfl (rMul z1 z2) (by simp) (by simp) ?_
  generalize z1 * z2 = a
  simp
  refine WO_callP [] rfl rfl (rMul a a) (by simp) (by simp) ?_
  generalize a * a = b
  simp
  refine WO_callP [] rfl rfl (rMul x1 x2) (by simp) (by simp) ?_
  generalize x1 * x2 = c
  simp
  refine WO_callP [] rfl rfl (rMul y1 y2) (by simp) (by simp) ?_
  generalize y1 * y2 = e
  simp
  refine WO_callQ rfl (rMul c e) (by simp) ?_
  simp
  refine WO_callQ rfl (rMul d (c * e)) (by simp) ?_
  generalize d * (c * e) = f
  simp
  refine WO_callP [] rfl rfl (rSub b f) (by simp) (by simp) ?_
  generalize b - f = g
  simp
  refine WO_callP [] rfl rfl (rAdd b f) (by simp) (by simp) ?_
  generalize b + f = h
  simp
  refine WO_callQ rfl (rAdd x1 y1) (by simp) ?_
  simp
  refine WO_callQ rfl (rAdd x2 y2) (by simp) ?_
  simp
  refine WO_callQ rfl (rMul (x1 + y1) (x2 + y2)) (by simp) ?_
  simp
  refine WO_callQ rfl (rSub ((x1 + y1) * (x2 + y2)) c) (by simp) ?_
  simp
  refine WO_callQ rfl (rSub ((x1 + y1) * (x2 + y2) - c) e) (by simp) ?_
  generalize (x1 + y1) * (x2 + y2) - c - e = w
  simp
  refine WO_callP [] rfl rfl (rMul a g) (by simp) (by simp) ?_
  simp
  refine WO_callP [] rfl rfl (rMul (a * g) w) (by simp) (by simp) ?_
  simp
  refine WO_callP [] rfl rfl (rMul a h) (by simp) (by simp) ?_
  simp
  refine WO_callP [] rfl rfl (rAdd e c) (by simp) (by simp) ?_
  simp
  refine WO_callP [] rfl rfl (rMul (a * h) (e + c)) (by simp) (by simp) ?_
  simp
  refine WO_callP [] rfl rfl (rMul g h) (by simp) (by simp) ?_
  simp
  exact fin_W (by simp)
end Go.Proofs.Ythgibibeoapfbaa

/-
  The document's points.
-/
namespace Go.Proofs.Ythgibibeoapfbaa
open Go Go.Fw
attribute [local simp] bv cleanL_bv toBytes_bv ltL_bv atF_drop WS_at_bytes W_nil W_skip W_seq W_reg W_draw W_drawP W_kill W_keep W_block W_blk W_exit W_ret WX_blk WX_c WX_lp WX_li W_li W_condT W_condF W_cond WC_true WC_false
  WR_nil WR_cons WR_o1 WR_o2 o1_chk o2_chk WR_grd WG_tt WG_ff WG_tf WG_ft WG_none WS_some WS_ok1 WSr_no WSr_some WSr_ok1 WSr_at_bytes WH_some WHA_some chkF_cons chkF_nil chkE_some chkE_ok1 chkE_at evF WO_mv WO_pick WO_bin WO_isNil WO_eqA WO_un WO_convI WO_toStr WO_ofStr WO_build WO_buildF WO_load WO_nilCheck WO_fieldAddr WO_field WO_idxA WO_idxS
  WO_ixA WO_slS WO_slA WO_len WO_lenK WO_appF WO_extract WO_s2a WO_iface WO_min WO_max WO_alloc WO_box WO_buildO WO_store WO_appO WO_copy WO_makeS WO_allocA WO_makeA WO_cvt cvtF_slice WO_look lookF_map alAF mkAF WO_func bind1_v bind2_v bindH_v bindH2_v bindS_v okO_v pickO_t pickO_f
  Env.keep Env.get Env.set Env.del Env.dels Env.setO Env.opd Env.opds Env.opdO Env.parts intF aggF fillA splice cleanL AV.clean bndF fldF_one fldF_many toStrF boxF buildOF
  loadF_rptr loadF_rptrN atF_zero atF_succ blk_cons_zero blk_cons_succ loadF_p loadF_pN atB_some atBN_some retPost resL one
  okc_bool cells_bool notStr_bool okc_int cells_int notStr_int okc_str cells_str notStr_str okc_nil cells_nil notStr_nil okc_ptr cells_ptr notStr_ptr okc_rptr cells_rptr notStr_rptr okc_slice cells_slice notStr_slice 
  okc_list cells_list notStr_list okc_func cells_func notStr_func okc_nilFunc cells_nilFunc notStr_nilFunc okc_iface cells_iface notStr_iface okc_nilIface cells_nilIface notStr_nilIface okc_agg cells_agg notStr_agg 
  okc_tuple cells_tuple notStr_tuple lenF_slice lenF_list lenF_str faF_ptr faF_rptr idxSF_slice idxSF_list idxAF_ptr idxAF_rptr ixAF_many ixAF_one convF_int unF_neg unF_xor unF_not nilF_0nil nilF_0ptr nilF_0rptr nilF_1 
  nilF_2nil nilF_2f nilF_3nil nilF_3f binF_int binF_beq binF_bne binF_sadd binF_seq binF_sne sliceCells_list sliceCells_str sliceCells_slice cutC_some szAV_list szAV_str szAV_slice oneSl_list oneSl_slice slSF_sliceS 
  slSF_sliceN slSF_list slAF_rptr slAF_ptr appFF_list appOF_list appOF_sliceN appOF_sliceS storeF_ptr copyF_slice extF_tuple s2aF_slice s2aF_list nchkF_ptr nchkF_rptr nchkF_f mmF_int ofStrF_str mkSF_int eqAF_agg
attribute [local irreducible] W WX WR WO WS WSr WH WHA WG WC FSpec
attribute [local simp] lendAll
attribute [local congr] W_cg WR_cg WO_cg WS_cg WSr_cg WH_cg WHA_cg WG_cg WC_cg WX_cg
attribute [local simp] Env.has AV.wkr wkrL AV.wkr_refl wkrL_refl AV.ltI ltL leHW hasW Env.lt AV.ids idsL AV.sub subL AV.ren AV.frz frzS frzP frzE frzL Heap.frz Blk.frz Blk.ren renL rnS rnP hasR leR idsL_bv subL_bv
attribute [local simp] cleanL_take cleanL_drop ltL_take ltL_drop idsL_take idsL_drop subL_take subL_drop cleanL_append ltL_append idsL_append subL_append
attribute [local simp] renE mvN mvH
attribute [local simp] fwd backH putL bwd
attribute [local simp] u8i u8e List.idxOf_cons
attribute [local simp] hasRW leRW
attribute [local simp] WS_at_map WSr_at_map loadWP splice_full Int.natCast_inj WS_at_q4 WSr_at_q4 q17_d q17_t q17_t0 q17_d34 q17_t51 q17_s0 q17_s17 q17_s34
theorem dP_eq : -(toF 3 * (toF 30000 + toF 10555)) * invF (toF 4 * toF 30000 + toF 1666) = toF dP := by
  have hm : toF 4 * toF 30000 + toF 1666 = toF 121666 := by
    apply fv_inj.1
    rw [fv_add, fv_mul, fv_toF, fv_toF, fv_toF, fv_toF]
    decide +kernel
  have hn : -(toF 3 * (toF 30000 + toF 10555)) = toF dP * toF 121666 := by
    apply fv_inj.1
    rw [fv_neg, fv_mul, fv_add, fv_mul, fv_toF, fv_toF, fv_toF, fv_toF, fv_toF]
    decide +kernel
  have h0 : toF 121666 ≠ 0 := by
    intro h
    have := congrArg fv h
    rw [fv_toF, fv_zero] at this
    exact absurd this (by decide +kernel)
  rw [hm, hn]
  have := invF_mul _ h0
  generalize toF dP = d at *
  generalize toF 121666 = m at *
  have e : d * m * invF m = d * (m * invF m) := by grind
  rw [e, this]; grind
theorem fRCvD_spec : FSpec Try.prog 30 [] [] (.agg (q17 (fv (toF dP)))) [] := by
  have h3 := rSmall 3 (by decide)
  have h30 := rSmall 30000 (by decide)
  have h10 := rSmall 10555 (by decide)
  have h4 := rSmall 4 (by decide)
  have h16 := rSmall 1666 (by decide)
  rw [← dP_eq]
  generalize toF 3 = a at *
  generalize toF 30000 = b at *
  generalize toF 10555 = c at *
  generalize toF 4 = e at *
  generalize toF 1666 = f at *
  refine FSpec.of_W fRCvD_low (by simp) ?_
  simp only [initEnv]
  simp
  refine WO_callP [] rfl rfl h3 (by simp) (by simp) ?_
  simp
  refine WO_callP [] rfl rfl h30 (by simp) (by simp) ?_
  simp
  refine WO_callP [] rfl rfl h10 (by simp) (by simp) ?_
  simp
  refine WO_callP [] rfl rfl (rAdd b c) (by simp) (by simp) ?_
  simp
  refine WO_callP [] rfl rfl (rMul a (b + c)) (by simp) (by simp) ?_
  simp
  refine WO_callP [] rfl rfl (rNeg (a * (b + c))) (by simp) (by simp) ?_
  simp
  refine WO_callP [] rfl rfl h4 (by simp) (by simp) ?_
  simp
  refine WO_callP [] rfl rfl h30 (by simp) (by simp) ?_
  simp
  refine WO_callP [] rfl rfl (rMul e b) (by simp) (by simp) ?_
  simp
  refine WO_callP [] rfl rfl h16 (by simp) (by simp) ?_
  simp
  refine WO_callP [] rfl rfl (rAdd (e * b) f) (by simp) (by simp) ?_
  simp
  refine WO_callP [] rfl rfl (rInv (e * b + f)) (by simp) (by simp) ?_
  simp
  refine WO_callP [] rfl rfl (rMul (-(a * (b + c))) (invF (e * b + f))) (by simp) (by simp) ?_
  simp
  exact fin_W (by simp)
/-- So many of the upper bits. -/
def timesR (p : Cv.RP Fp) (n : Nat) (d : Fp) : Nat → Cv.RP Fp
  | 0 => noneR
  | k + 1 => if n / 2 ^ (255 - k) % 2 = 1 then Cv.addR d (Cv.addR d (timesR p n d k) (timesR p n d k)) p else Cv.addR d (timesR p n d k) (timesR p n d k)
set_option maxRecDepth 100000 in
set_option maxHeartbeats 4000000 in
theorem fRCvTimes_spec (p : Cv.RP Fp) (n : Nat) (d : Fp) : FSpec Try.prog 29 [.agg (rpC p), .agg (q4 n), .agg (q17 (fv d))] [] (.agg (rpC (timesR p n d 256))) [] := by
  have hnone := fRCvNone_spec
  have hn0 : noneR = timesR p n d 0 := rfl
  rw [hn0] at hnone
  simp only [rpC] at hnone ⊢
  refine FSpec.of_W fRCvTimes_low (by simp) ?_
  simp only [initEnv]
  simp
  refine WO_callP [] rfl rfl hnone (by simp) (by simp) ?_
  simp
  refine W_loop (X := { k : Nat // k ≤ 256 }) (fun k => [(3, .ptr 0 0), (4, .ptr 1 0), (5, .ptr 2 0), (6, .ptr 3 0), (7, .ptr 4 0), (8, .int .i64 (255 - (k.1 : Int)))]) (fun k => [some ⟨rpC p, 57, true⟩, some ⟨q4 n, 48, true⟩, some ⟨q17 (fv d), 55, true⟩, some ⟨List.replicate 51 (.int .i64 0), 57, true⟩, some ⟨rpC (timesR p n d k.1), 57, true⟩]) (fun k => 256 - k.1) ⟨0, by omega⟩ retPost_le ?_ ?_
  · refine cut_w ?_
    simp [rpC]
  · rintro ⟨k, hk⟩
    simp only
    simp [rpC]
    by_cases hlt : k < 256
    · obtain ⟨j, hj⟩ : ∃ j, j = 255 - k := ⟨_, rfl⟩
      have hji : 255 - (k : Int) = (j : Int) := by omega
      have e0 : IntKind.i64.wrap ((j : Int) - 1) = 255 - ((k + 1 : Nat) : Int) := by rw [wrap64s (by omega) (by omega)]; omega
      push_cast at e0
      have c2 : (k : Int) ≤ 255 := by omega
      obtain ⟨q, hq⟩ : ∃ q, q = j / 64 := ⟨_, rfl⟩
      obtain ⟨r, hr⟩ : ∃ r, r = j % 64 := ⟨_, rfl⟩
      have e1 : (j : Int).tdiv 64 = (q : Int) := by rw [hq]; rfl
      have e2 : (j : Int).tmod 64 = (r : Int) := by rw [hr]; rfl
      have e5 : ((wd n q : Nat) : Int).fdiv (2 ^ min r 64) = ((wd n q / 2 ^ r : Nat) : Int) := by rw [show min r 64 = r by omega]; exact shr_nat _ _
      have e6 : (q : Int) < 4 := by omega
      have e7 : q < 4 := by omega
      have e3 := wd_bit' n j
      rw [← hq, ← hr] at e3
      generalize wd n q / 2 ^ r = z at *
      have e8 : (z : Int).tmod 2 = ((n / 2 ^ j % 2 : Nat) : Int) := by rw [← e3]; rfl
      have hs1 := fRCvAdd_spec (timesR p n d k) (timesR p n d k) d
      have hs2 := fRCvAdd_spec (Cv.addR d (timesR p n d k) (timesR p n d k)) p d
      have hsucc : timesR p n d (k + 1) = if n / 2 ^ (255 - k) % 2 = 1 then Cv.addR d (Cv.addR d (timesR p n d k) (timesR p n d k)) p else Cv.addR d (timesR p n d k) (timesR p n d k) := rfl
      rw [← hj] at hsucc
      obtain ⟨y, hy⟩ : ∃ y, y = n / 2 ^ j % 2 := ⟨_, rfl⟩
      rw [← hy] at e8 hsucc
      generalize Cv.addR d (timesR p n d k) (timesR p n d k) = o1 at *
      generalize Cv.addR d o1 p = o2 at *
      generalize timesR p n d k = o at *
      simp only [rpC] at hs1 hs2
      simp [c2]
      refine WO_callP [] rfl rfl hs1 (by simp) (by simp) ?_
      simp [hji, e1, e2, e6, e7, e5, e8, IntKind.bits, wrap64s (n := (q : Int)) (by omega) (by omega)]
      refine WC_dec (fun h => ?_) (fun h => ?_)
      · have h' : y = 1 := by omega
        rw [if_pos h'] at hsucc
        simp
        refine WO_callP [] rfl rfl hs2 (by simp) (by simp) ?_
        simp
        exact ⟨⟨k + 1, by omega⟩, by simp; omega, cut_w (by simp [rpC, hsucc, e0])⟩
      · have h' : ¬ y = 1 := by omega
        rw [if_neg h'] at hsucc
        simp
        exact ⟨⟨k + 1, by omega⟩, by simp; omega, cut_w (by simp [rpC, hsucc, e0])⟩
    · have hk6 : k = 256 := by omega
      have c2 : ¬ (k : Int) ≤ 255 := by omega
      simp [c2]
      exact fin_W (by simp [hk6])
end Go.Proofs.Ythgibibeoapfbaa
