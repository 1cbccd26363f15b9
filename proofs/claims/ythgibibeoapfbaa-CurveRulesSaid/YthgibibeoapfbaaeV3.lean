/-
  Points as bytes.
-/
import Derived.Test.YthgibibeoapfbaaE5
import Derived.Test.YthgibibeoapfbaaeV2
set_option linter.unusedSimpArgs false
set_option linter.unnecessarySimpa false
set_option linter.unusedVariables false
set_option linter.unusedSectionVars false
namespace Go.Proofs.Ythgibibeoapfbaa
open Go Go.Fw
attribute [local simp] bv cleanL_bv toBytes_bv ltL_bv atF_drop WS_at_bytes W_nil W_skip W_seq W_reg W_draw W_drawP W_kill W_keep W_block W_blk W_exit W_ret WX_blk WX_c WX_lp WX_li W_li W_condT W_condF W_cond WC_true WC_false
  WR_nil WR_cons WR_o1 WR_o2 o1_chk o2_chk WR_grd WG_tt WG_ff WG_tf WG_ft WG_none WS_some WS_ok1 WSr_no WSr_some WSr_ok1 WSr_at_bytes WH_some WHA_some chkF_cons chkF_nil chkE_some chkE_ok1 chkE_at evF WO_mv WO_pick WO_bin WO_isNil WO_eqA WO_un WO_convI WO_toStr WO_ofStr WO_build WO_buildF WO_load WO_nilCheck WO_fieldAddr WO_field WO_idxA WO_idxS
  WO_ixA WO_slS WO_slA WO_len WO_lenK WO_appF WO_extract WO_s2a WO_iface WO_min WO_max WO_alloc WO_box WO_buildO WO_store WO_appO WO_copy WO_makeS WO_allocA WO_makeA WO_cvt cvtF_slice WO_look lookF_map alAF mkAF WO_func bind1_v bind2_v bindH_v bindH2_v bindS_v okO_v pickO_t pickO_f
  Env.keep Env.get Env.set Env.del Env.dels Env.setO Env.opd Env.opds Env.opdO Env.parts intF aggF fillA splice cleanL AV.clean bndF fldF_one fldF_many toStrF boxF buildOF
  loadF_rptr loadF_rptrN atF_zero atF_succ blk_cons_zero blk_cons_succ loadF_p loadF_pN atB_some atBN_some retPost resL one
  okc_bool cells_bool notStr_bool okc_int cells_int notStr_int okc_str cells_str notStr_str okc_nil cells_nil notStr_nil okc_ptr cells_ptr notStr_ptr okc_rptr cells_rptr notStr_rptr okc_slice cells_slice notStr_slice 
  okc_list cells_list notStr_list okc_func cells_func notStr_func okc_nilFunc cells_nilFunc notStr_nilFunc okc_iface cells_iface notStr_iface okc_nilIface cells_nilIface notStr_nilIface okc_agg cells_agg notStr_agg 
  okc_tuple cells_tuple notStr_tuple lenF_slice lenF_list lenF_str faF_ptr faF_rptr idxSF_slice idxSF_list idxAF_ptr idxAF_rptr ixAF_many ixAF_one convF_int unF_neg unF_xor unF_not nilF_0nil nilF_0ptr nilF_0rptr nilF_1 
  nilF_2nil nilF_2f nilF_3nil nilF_3f binF_int binF_beq binF_bne binF_sadd binF_seq binF_sne sliceCells_list sliceCells_str sliceCells_slice cutC_some szAV_list szAV_str szAV_slice oneSl_list oneSl_slice slSF_sliceS 
  slSF_sliceN slSF_list slAF_rptr slAF_ptr appFF_list appOF_list appOF_sliceN appOF_sliceS storeF_ptr copyF_slice extF_tuple s2aF_slice s2aF_list nchkF_ptr nchkF_rptr nchkF_f mmF_int ofStrF_str mkSF_int eqAF_agg
attribute [local irreducible] W WX WR WO WS WSr WH WHA WG WC FSpec
attribute [local simp] lendAll
attribute [local congr] W_cg WR_cg WO_cg WS_cg WSr_cg WH_cg WHA_cg WG_cg WC_cg WX_cg
attribute [local simp] Env.has AV.wkr wkrL AV.wkr_refl wkrL_refl AV.ltI ltL leHW hasW Env.lt AV.ids idsL AV.sub subL AV.ren AV.frz frzS frzP frzE frzL Heap.frz Blk.frz Blk.ren renL rnS rnP hasR leR idsL_bv subL_bv
attribute [local simp] cleanL_take cleanL_drop ltL_take ltL_drop idsL_take idsL_drop subL_take subL_drop cleanL_append ltL_append idsL_append subL_append
attribute [local simp] renE mvN mvH
attribute [local simp] fwd backH putL bwd
attribute [local simp] u8i u8e List.idxOf_cons
attribute [local simp] hasRW leRW
attribute [local simp] WS_at_map WSr_at_map loadWP splice_full Int.natCast_inj
/-- A point's two numbers. -/
noncomputable def affE (p : Cv.EP Fp) : Fp × Fp := if p.z = 0 then (0, 1) else (p.x * invF p.z, p.y * invF p.z)
set_option maxHeartbeats 1000000 in
theorem fCvAffine_spec (p : Cv.EP Fp) : FSpec Try.prog 81 [.agg (ptC p)] [] (.agg (q4 (fv (affE p).1) ++ q4 (fv (affE p).2))) [] := by
  obtain ⟨x, y, z, t⟩ := p
  have hz := wdz z
  refine FSpec.of_W fCvAffine_low (by simp) ?_
  simp only [initEnv, ptC, affE]
  simp [q4, hasK, ints]
  refine WC_b (fun h => ?_) (fun h => ?_)
  · simp only [Bool.and_eq_true, decide_eq_true_eq] at h
    have hz0 : z = 0 := hz ▸ h
    rw [if_pos hz0]
    simp
    refine WO_callP [] rfl rfl fSmall1 (by simp [q4]) (by simp [q4]) ?_
    simp [q4]
    exact fin_W (by simp [q4, wd00])
  · have hz0 : ¬ z = 0 := fun q => by
      have h2 := hz.symm ▸ q
      rw [← Bool.not_eq_true] at h
      apply h
      simp only [Bool.and_eq_true, decide_eq_true_eq]
      exact h2
    rw [if_neg hz0]
    simp
    refine WO_callP [] rfl rfl (fInv1 z) (by simp [q4]) (by simp [q4]) ?_
    simp [q4]
    refine WO_callP [] rfl rfl (fMul2 x (invF z) ⟨false, true, false⟩) (by simp [q4]) (by simp [q4]) ?_
    simp [q4]
    refine WO_callP [] rfl rfl (fMul2 y (invF z) ⟨false, true, false⟩) (by simp [q4]) (by simp [q4]) ?_
    simp [q4]
    exact fin_W (by simp [q4])
set_option maxHeartbeats 1000000 in
theorem fCvEncode_spec (p : Cv.EP Fp) : FSpec Try.prog 26 [.agg (ptC p)] [] (.agg ((enc32 (affE p).1 (affE p).2).map bv)) [] := by
  have ha := fCvAffine_spec p
  obtain ⟨x, y, hxy⟩ : ∃ x y, affE p = (x, y) := ⟨_, _, rfl⟩
  rw [hxy] at ha ⊢
  simp only [ptC] at ha ⊢
  have he := fFdEncode_spec (fv y)
  have ho := fFdOdd_spec (fv x)
  have hy := fv_255 y
  have htop := byL_top (fv y)
  have hadd := byL_add_top hy
  have hor := or128_top (top_lt hy)
  have hlen : (byL 32 (fv y)).length = 32 := byL_len _ _
  unfold enc32
  generalize fv y / 256 ^ 31 = m at *
  simp only [q4, List.cons_append, List.nil_append] at ha
  refine FSpec.of_W fCvEncode_low (by simp) ?_
  simp only [initEnv]
  simp [q4]
  refine WO_callP [] rfl rfl ha (by simp) (by simp) ?_
  simp
  refine WO_callP [] rfl rfl he (by simp) (by simp [q4]) ?_
  simp [hlen]
  refine WO_callP [] rfl rfl ho (by simp) (by simp [q4]) ?_
  simp
  refine WC_dec (fun hodd => ?_) (fun hodd => ?_)
  · have hge : (byL 32 (fv y))[31]'(by rw [hlen]; decide) = UInt8.ofNat m := by
      rw [List.getElem?_eq_getElem (by rw [hlen]; decide)] at htop
      exact Option.some.inj htop
    have hset : ((byL 32 (fv y)).map bv).set 31 (.int .u8 ((UInt8.ofNat (m + 128)).toNat : Int)) = (byL 32 (fv y + 2 ^ 255)).map bv := by
      rw [← hadd, List.map_set]; rfl
    rw [show 2 ^ 255 * (fv x % 2) = 2 ^ 255 by rw [hodd]]
    have hl2 : (byL 32 (fv y + 2 ^ 255)).length = 32 := byL_len _ _
    generalize byL 32 (fv y + 2 ^ 255) = B2 at *
    generalize UInt8.ofNat m = u at *
    generalize UInt8.ofNat (m + 128) = u2 at *
    generalize byL 32 (fv y) = B at *
    simp [hlen, hl2, hge, hor, hset, List.take_of_length_le]
    exact fin_W (by simp)
  · have h0 : fv x % 2 = 0 := by omega
    simp [hlen, List.take_of_length_le]
    exact fin_W (by simp [h0])
/-- The point of a number of bytes. -/
noncomputable def decE (N : Nat) : Option (Fp × Fp) :=
  if N % 2 ^ 255 < p25 then
    let y := toF (N % 2 ^ 255)
    let q := (y * y - 1) * invF (1 + toF dP * (y * y))
    let x := toF (rootF (fv q)).1
    if (rootF (fv q)).2 = false ∨ (2 ^ 255 ≤ N ∧ x = 0) then none else some (if 2 ^ 255 ≤ N then -x else x, y)
  else none
theorem root1 (q : Fp) : FSpec Try.prog 68 [.agg (q4 (fv q))] [] (.tuple [.agg (q4 (fv (toF (rootF (fv q)).1))), .bool (rootF (fv q)).2]) [] := by
  have h := fFdRoot_spec (fv q) (fv_lt q)
  rw [toF_lt]
  · exact h
  · cases hr : (rootF (fv q)).2 with
    | true => exact (rootF_yes hr).2.1
    | false => rw [rootF_no hr]; exact p25_pos
set_option maxRecDepth 100000 in
set_option maxHeartbeats 4000000 in
theorem fCvDecode_spec (l : List UInt8) (hl : l.length = 32) : FSpec Try.prog 24 [.agg (l.map bv)] [] (match decE (byN l) with | none => .tuple [.agg (ptC zeroE), .int .i64 7] | some (x, y) => .tuple [.agg (ptC (atE x y)), .int .i64 0]) [] := by
  obtain ⟨b, hb, hb1, hb2⟩ := byN_top hl
  obtain ⟨R, hR⟩ : ∃ R, R = decE (byN l) := ⟨_, rfl⟩
  rw [← hR]
  unfold decE at hR
  have hNlt : byN l < 2 ^ 256 := by have := byN_lt l; rw [hl] at this; exact this
  obtain ⟨N, hN⟩ : ∃ N, N = byN l := ⟨_, rfl⟩
  rw [← hN] at hb1 hb2 hR hNlt
  have hge : l[31]'(by omega) = b := by rw [List.getElem?_eq_getElem (by omega)] at hb; exact Option.some.inj hb
  have hblt := b.toNat_lt
  obtain ⟨b2, hb2e⟩ : ∃ b2, b2 = UInt8.ofNat (b.toNat % 128) := ⟨_, rfl⟩
  have hand : bitI .and .u8 (b.toNat : Int) 127 = (b2.toNat : Int) := by
    rw [hb2e, show (127 : Int) = ((127 : Nat) : Int) from rfl, bitI_and rfl (show b.toNat < 2 ^ 8 by omega) (show 127 < 2 ^ 8 by decide), show (127 : Nat) = 2 ^ 7 - 1 from rfl, Nat.and_two_pow_sub_one_eq_mod, UInt8.toNat_ofNat']
    congr 1; omega
  have hshr : (b.toNat : Int).fdiv 128 = ((b.toNat / 128 : Nat) : Int) := by rw [show (128 : Int) = 2 ^ 7 from rfl]; exact shr_nat _ _
  rw [← hb2e] at hb2
  have hodd : (b.toNat / 128 = 1) = (2 ^ 255 ≤ N) := by rw [hb1]; apply propext; omega
  obtain ⟨o, ho⟩ : ∃ o, o = b.toNat / 128 := ⟨_, rfl⟩
  rw [← ho] at hshr hodd
  have hlen2 : (l.set 31 b2).length = 32 := by rw [List.length_set, hl]
  have hdec := fFdDecode_spec (l.set 31 b2) hlen2
  rw [hb2] at hdec
  have hset : (l.map bv).set 31 (.int .u8 (b2.toNat : Int)) = (l.set 31 b2).map bv := by rw [List.map_set]; rfl
  generalize l.set 31 b2 = l2 at *
  refine FSpec.of_W fCvDecode_low (by simp) ?_
  simp only [initEnv]
  simp [hl, hge, hand, hshr, hset, hlen2, IntKind.bits, List.take_of_length_le]
  by_cases c1 : N % 2 ^ 255 < p25
  rotate_left
  · rw [if_neg c1] at hR
    rw [hR]
    rw [decP, if_neg c1] at hdec
    refine WO_callP [] rfl rfl hdec (by simp [q4]) (by simp) ?_
    simp [q4]
    exact fin_W (by simp [ptC, q4, zeroE, wd00])
  rw [if_pos c1] at hR
  rw [decP, if_pos c1, ← toF_lt c1] at hdec
  generalize toF (N % 2 ^ 255) = y at *
  have hD := fCvD_spec
  simp only at hR
  have hroot := root1 ((y * y - 1) * invF (1 + toF dP * (y * y)))
  have hneg := fNeg1 (toF (rootF (fv ((y * y - 1) * invF (1 + toF dP * (y * y))))).1)
  have hi := fInv1 (1 + toF dP * (y * y))
  generalize toF dP = d at *
  refine WO_callP [] rfl rfl hdec (by simp [q4]) (by simp) ?_
  simp [q4]
  refine WO_callQ rfl fSmall1 (by simp [q4]) ?_
  simp [q4]
  refine WO_callQ rfl (fMul2 y y ⟨false, true, false⟩) (by simp [q4]) ?_
  generalize y * y = y2 at *
  simp [q4]
  refine WO_callP [] rfl rfl (fSub2 y2 1) (by simp [q4]) (by simp) ?_
  simp [q4]
  refine WO_callQ rfl hD (by simp [q4]) ?_
  simp [q4]
  refine WO_callQ rfl (fMul2 d y2 ⟨false, true, false⟩) (by simp [q4]) ?_
  simp [q4]
  refine WO_callQ rfl (fAdd2 1 (d * y2) ⟨false, true, false⟩) (by simp [q4]) ?_
  simp [q4]
  refine WO_callQ rfl hi (by simp [q4]) ?_
  simp [q4]
  refine WO_callQ rfl (fMul2 (y2 - 1) (invF (1 + d * y2)) ⟨false, true, false⟩) (by simp [q4]) ?_
  generalize (y2 - 1) * invF (1 + d * y2) = q at *
  simp [q4]
  refine WO_callQ rfl hroot (by simp [q4]) ?_
  generalize toF (rootF (fv q)).1 = x at *
  generalize (rootF (fv q)).2 = ok at *
  simp [q4]
  cases ok with
  | false =>
    rw [if_pos (.inl rfl)] at hR
    rw [hR]
    simp
    exact fin_W (by simp [ptC, q4, zeroE, wd00])
  | true =>
    by_cases ho1 : o = 1
    · have hge2 : 2 ^ 255 ≤ N := hodd ▸ ho1
      by_cases hx0 : x = 0
      · rw [if_pos (.inr ⟨hge2, hx0⟩)] at hR
        rw [hR]
        subst hx0
        simp [ho1, wd00, hasK, ints]
        exact fin_W (by simp [ptC, q4, zeroE, wd00])
      · rw [if_neg (fun z => z.elim (by simp) fun w => hx0 w.2), if_pos hge2] at hR
        rw [hR]
        have hz := wdz x
        have hat := fCvAt_spec (-x) y
        generalize -x = nx at *
        simp only [ptC, atE] at hat ⊢
        simp [ho1, hasK, ints]
        refine WC_b (fun h => ?_) (fun h => ?_)
        · exfalso
          simp only [Bool.and_eq_true, decide_eq_true_eq] at h
          exact hx0 (hz ▸ h)
        · simp
          refine WO_callP [] rfl rfl hneg (by simp [q4]) (by simp) ?_
          simp [q4]
          refine WO_callP [] rfl rfl hat (by simp [q4]) (by simp) ?_
          simp [q4]
          exact fin_W (by simp [q4])
    · have hge2 : ¬ 2 ^ 255 ≤ N := fun z => ho1 (hodd.symm ▸ z)
      rw [if_neg (fun z => z.elim (by simp) fun w => hge2 w.1), if_neg hge2] at hR
      rw [hR]
      have hat := fCvAt_spec x y
      simp only [ptC, atE] at hat ⊢
      have ho1' : ¬ (o : Int) = 1 := by omega
      simp [ho1, ho1']
      refine WO_callP [] rfl rfl hat (by simp [q4]) (by simp) ?_
      simp [q4]
      exact fin_W (by simp [q4])
end Go.Proofs.Ythgibibeoapfbaa
