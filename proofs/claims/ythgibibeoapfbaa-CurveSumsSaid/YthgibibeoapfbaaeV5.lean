/-
  The document's points.
-/
import Derived.Test.YthgibibeoapfbaaeV4
set_option linter.unusedSimpArgs false
set_option linter.unnecessarySimpa false
set_option linter.unusedVariables false
set_option linter.unusedSectionVars false
namespace Go.Proofs.Ythgibibeoapfbaa
open Go Go.Fw
attribute [local simp] bv cleanL_bv toBytes_bv ltL_bv atF_drop WS_at_bytes W_nil W_skip W_seq W_reg W_draw W_drawP W_kill W_keep W_block W_blk W_exit W_ret WX_blk WX_c WX_lp WX_li W_li W_condT W_condF W_cond WC_true WC_false
  WR_nil WR_cons WR_o1 WR_o2 o1_chk o2_chk WR_grd WG_tt WG_ff WG_tf WG_ft WG_none WS_some WS_ok1 WSr_no WSr_some WSr_ok1 WSr_at_bytes WH_some WHA_some chkF_cons chkF_nil chkE_some chkE_ok1 chkE_at evF WO_mv WO_pick WO_bin WO_isNil WO_eqA WO_un WO_convI WO_toStr WO_ofStr WO_build WO_buildF WO_load WO_nilCheck WO_fieldAddr WO_field WO_idxA WO_idxS
  WO_ixA WO_slS WO_slA WO_len WO_lenK WO_appF WO_extract WO_s2a WO_iface WO_min WO_max WO_alloc WO_box WO_buildO WO_store WO_appO WO_copy WO_makeS WO_allocA WO_makeA WO_cvt cvtF_slice WO_look lookF_map alAF mkAF WO_func bind1_v bind2_v bindH_v bindH2_v bindS_v okO_v pickO_t pickO_f
  Env.keep Env.get Env.set Env.del Env.dels Env.setO Env.opd Env.opds Env.opdO Env.parts intF aggF fillA splice cleanL AV.clean bndF fldF_one fldF_many toStrF boxF buildOF
  loadF_rptr loadF_rptrN atF_zero atF_succ blk_cons_zero blk_cons_succ loadF_p loadF_pN atB_some atBN_some retPost resL one
  okc_bool cells_bool notStr_bool okc_int cells_int notStr_int okc_str cells_str notStr_str okc_nil cells_nil notStr_nil okc_ptr cells_ptr notStr_ptr okc_rptr cells_rptr notStr_rptr okc_slice cells_slice notStr_slice 
  okc_list cells_list notStr_list okc_func cells_func notStr_func okc_nilFunc cells_nilFunc notStr_nilFunc okc_iface cells_iface notStr_iface okc_nilIface cells_nilIface notStr_nilIface okc_agg cells_agg notStr_agg 
  okc_tuple cells_tuple notStr_tuple lenF_slice lenF_list lenF_str faF_ptr faF_rptr idxSF_slice idxSF_list idxAF_ptr idxAF_rptr ixAF_many ixAF_one convF_int unF_neg unF_xor unF_not nilF_0nil nilF_0ptr nilF_0rptr nilF_1 
  nilF_2nil nilF_2f nilF_3nil nilF_3f binF_int binF_beq binF_bne binF_sadd binF_seq binF_sne sliceCells_list sliceCells_str sliceCells_slice cutC_some szAV_list szAV_str szAV_slice oneSl_list oneSl_slice slSF_sliceS 
  slSF_sliceN slSF_list slAF_rptr slAF_ptr appFF_list appOF_list appOF_sliceN appOF_sliceS storeF_ptr copyF_slice extF_tuple s2aF_slice s2aF_list nchkF_ptr nchkF_rptr nchkF_f mmF_int ofStrF_str mkSF_int eqAF_agg
attribute [local irreducible] W WX WR WO WS WSr WH WHA WG WC FSpec
attribute [local simp] lendAll
attribute [local congr] W_cg WR_cg WO_cg WS_cg WSr_cg WH_cg WHA_cg WG_cg WC_cg WX_cg
attribute [local simp] Env.has AV.wkr wkrL AV.wkr_refl wkrL_refl AV.ltI ltL leHW hasW Env.lt AV.ids idsL AV.sub subL AV.ren AV.frz frzS frzP frzE frzL Heap.frz Blk.frz Blk.ren renL rnS rnP hasR leR idsL_bv subL_bv
attribute [local simp] cleanL_take cleanL_drop ltL_take ltL_drop idsL_take idsL_drop subL_take subL_drop cleanL_append ltL_append idsL_append subL_append
attribute [local simp] renE mvN mvH
attribute [local simp] fwd backH putL bwd
attribute [local simp] u8i u8e List.idxOf_cons
attribute [local simp] hasRW leRW
attribute [local simp] WS_at_map WSr_at_map loadWP splice_full Int.natCast_inj WS_at_q4 WSr_at_q4 q17_d q17_t q17_t0 q17_d34 q17_t51 q17_s0 q17_s17 q17_s34
theorem dP_eq : -(toF 3 * (toF 30000 + toF 10555)) * invF (toF 4 * toF 30000 + toF 1666) = toF dP := by
  have hm : toF 4 * toF 30000 + toF 1666 = toF 121666 := by
    apply fv_inj.1
    rw [fv_add, fv_mul, fv_toF, fv_toF, fv_toF, fv_toF]
    decide +kernel
  have hn : -(toF 3 * (toF 30000 + toF 10555)) = toF dP * toF 121666 := by
    apply fv_inj.1
    rw [fv_neg, fv_mul, fv_add, fv_mul, fv_toF, fv_toF, fv_toF, fv_toF, fv_toF]
    decide +kernel
  have h0 : toF 121666 ≠ 0 := by
    intro h
    have := congrArg fv h
    rw [fv_toF, fv_zero] at this
    exact absurd this (by decide +kernel)
  rw [hm, hn]
  have := invF_mul _ h0
  generalize toF dP = d at *
  generalize toF 121666 = m at *
  have e : d * m * invF m = d * (m * invF m) := by grind
  rw [e, this]; grind
theorem fRCvD_spec : FSpec Try.prog 30 [] [] (.agg (q17 (fv (toF dP)))) [] := by
  have h3 := rSmall 3 (by decide)
  have h30 := rSmall 30000 (by decide)
  have h10 := rSmall 10555 (by decide)
  have h4 := rSmall 4 (by decide)
  have h16 := rSmall 1666 (by decide)
  rw [← dP_eq]
  generalize toF 3 = a at *
  generalize toF 30000 = b at *
  generalize toF 10555 = c at *
  generalize toF 4 = e at *
  generalize toF 1666 = f at *
  refine FSpec.of_W fRCvD_low (by simp) ?_
  simp only [initEnv]
  simp
  refine WO_callP [] rfl rfl h3 (by simp) (by simp) ?_
  simp
  refine WO_callP [] rfl rfl h30 (by simp) (by simp) ?_
  simp
  refine WO_callP [] rfl rfl h10 (by simp) (by simp) ?_
  simp
  refine WO_callP [] rfl rfl (rAdd b c) (by simp) (by simp) ?_
  simp
  refine WO_callP [] rfl rfl (rMul a (b + c)) (by simp) (by simp) ?_
  simp
  refine WO_callP [] rfl rfl (rNeg (a * (b + c))) (by simp) (by simp) ?_
  simp
  refine WO_callP [] rfl rfl h4 (by simp) (by simp) ?_
  simp
  refine WO_callP [] rfl rfl h30 (by simp) (by simp) ?_
  simp
  refine WO_callP [] rfl rfl (rMul e b) (by simp) (by simp) ?_
  simp
  refine WO_callP [] rfl rfl h16 (by simp) (by simp) ?_
  simp
  refine WO_callP [] rfl rfl (rAdd (e * b) f) (by simp) (by simp) ?_
  simp
  refine WO_callP [] rfl rfl (rInv (e * b + f)) (by simp) (by simp) ?_
  simp
  refine WO_callP [] rfl rfl (rMul (-(a * (b + c))) (invF (e * b + f))) (by simp) (by simp) ?_
  simp
  exact fin_W (by simp)
/-- So many of the upper bits. -/
def timesR (p : Cv.RP Fp) (n : Nat) (d : Fp) : Nat → Cv.RP Fp
  | 0 => noneR
  | k + 1 => if n / 2 ^ (255 - k) % 2 = 1 then Cv.addR d (Cv.addR d (timesR p n d k) (timesR p n d k)) p else Cv.addR d (timesR p n d k) (timesR p n d k)
set_option maxRecDepth 100000 in
set_option maxHeartbeats 4000000 in
theorem fRCvTimes_spec (p : Cv.RP Fp) (n : Nat) (d : Fp) : FSpec Try.prog 29 [.agg (rpC p), .agg (q4 n), .agg (q17 (fv d))] [] (.agg (rpC (timesR p n d 256))) [] := by
  have hnone := fRCvNone_spec
  have hn0 : noneR = timesR p n d 0 := rfl
  rw [hn0] at hnone
  simp only [rpC] at hnone ⊢
  refine FSpec.of_W fRCvTimes_low (by simp) ?_
  simp only [initEnv]
  simp
  refine WO_callP [] rfl rfl hnone (by simp) (by simp) ?_
  simp
  refine W_loop (X := { k : Nat // k ≤ 256 }) (fun k => [(3, .ptr 0 0), (4, .ptr 1 0), (5, .ptr 2 0), (6, .ptr 3 0), (7, .ptr 4 0), (8, .int .i64 (255 - (k.1 : Int)))]) (fun k => [some ⟨rpC p, 57, true⟩, some ⟨q4 n, 48, true⟩, some ⟨q17 (fv d), 55, true⟩, some ⟨List.replicate 51 (.int .i64 0), 57, true⟩, some ⟨rpC (timesR p n d k.1), 57, true⟩]) (fun k => 256 - k.1) ⟨0, by omega⟩ retPost_le ?_ ?_
  · refine cut_w ?_
    simp [rpC]
  · rintro ⟨k, hk⟩
    simp only
    simp [rpC]
    by_cases hlt : k < 256
    · obtain ⟨j, hj⟩ : ∃ j, j = 255 - k := ⟨_, rfl⟩
      have hji : 255 - (k : Int) = (j : Int) := by omega
      have e0 : IntKind.i64.wrap ((j : Int) - 1) = 255 - ((k + 1 : Nat) : Int) := by rw [wrap64s (by omega) (by omega)]; omega
      push_cast at e0
      have c2 : (k : Int) ≤ 255 := by omega
      obtain ⟨q, hq⟩ : ∃ q, q = j / 64 := ⟨_, rfl⟩
      obtain ⟨r, hr⟩ : ∃ r, r = j % 64 := ⟨_, rfl⟩
      have e1 : (j : Int).tdiv 64 = (q : Int) := by rw [hq]; rfl
      have e2 : (j : Int).tmod 64 = (r : Int) := by rw [hr]; rfl
      have e5 : ((wd n q : Nat) : Int).fdiv (2 ^ min r 64) = ((wd n q / 2 ^ r : Nat) : Int) := by rw [show min r 64 = r by omega]; exact shr_nat _ _
      have e6 : (q : Int) < 4 := by omega
      have e7 : q < 4 := by omega
      have e3 := wd_bit' n j
      rw [← hq, ← hr] at e3
      generalize wd n q / 2 ^ r = z at *
      have e8 : (z : Int).tmod 2 = ((n / 2 ^ j % 2 : Nat) : Int) := by rw [← e3]; rfl
      have hs1 := fRCvAdd_spec (timesR p n d k) (timesR p n d k) d
      have hs2 := fRCvAdd_spec (Cv.addR d (timesR p n d k) (timesR p n d k)) p d
      have hsucc : timesR p n d (k + 1) = if n / 2 ^ (255 - k) % 2 = 1 then Cv.addR d (Cv.addR d (timesR p n d k) (timesR p n d k)) p else Cv.addR d (timesR p n d k) (timesR p n d k) := rfl
      rw [← hj] at hsucc
      obtain ⟨y, hy⟩ : ∃ y, y = n / 2 ^ j % 2 := ⟨_, rfl⟩
      rw [← hy] at e8 hsucc
      generalize Cv.addR d (timesR p n d k) (timesR p n d k) = o1 at *
      generalize Cv.addR d o1 p = o2 at *
      generalize timesR p n d k = o at *
      simp only [rpC] at hs1 hs2
      simp [c2]
      refine WO_callP [] rfl rfl hs1 (by simp) (by simp) ?_
      simp [hji, e1, e2, e6, e7, e5, e8, IntKind.bits, wrap64s (n := (q : Int)) (by omega) (by omega)]
      refine WC_dec (fun h => ?_) (fun h => ?_)
      · have h' : y = 1 := by omega
        rw [if_pos h'] at hsucc
        simp
        refine WO_callP [] rfl rfl hs2 (by simp) (by simp) ?_
        simp
        exact ⟨⟨k + 1, by omega⟩, by simp; omega, cut_w (by simp [rpC, hsucc, e0])⟩
      · have h' : ¬ y = 1 := by omega
        rw [if_neg h'] at hsucc
        simp
        exact ⟨⟨k + 1, by omega⟩, by simp; omega, cut_w (by simp [rpC, hsucc, e0])⟩
    · have hk6 : k = 256 := by omega
      have c2 : ¬ (k : Int) ≤ 255 := by omega
      simp [c2]
      exact fin_W (by simp [hk6])
/-- A point's two numbers. -/
noncomputable def affR (p : Cv.RP Fp) : Fp × Fp := (p.x * invF p.z, p.y * invF p.z)
theorem or128_add {m : Nat} (h : m < 128) : IntKind.u8.wrap (((UInt8.ofNat m).toNat : Int) + 128) = ((UInt8.ofNat (m + 128)).toNat : Int) := by
  have e1 : (UInt8.ofNat m).toNat = m := by rw [UInt8.toNat_ofNat']; omega
  rw [e1, show (m : Int) + 128 = ((m + 128 : Nat) : Int) by omega]
  exact wrap8_u8 _
set_option maxHeartbeats 1000000 in
theorem fRCvEncode_spec (p : Cv.RP Fp) : FSpec Try.prog 28 [.agg (rpC p)] [] (.agg ((enc32 (affR p).1 (affR p).2).map bv)) [] := by
  obtain ⟨x0, y0, z⟩ := p
  simp only [affR, rpC]
  have hbts := fQBytes_spec (fv (y0 * invF z)) (fv_255 _)
  have hm1 := rMul x0 (invF z)
  have hm2 := rMul y0 (invF z)
  have hi := rInv z
  generalize invF z = iz at *
  generalize x0 * iz = x at *
  generalize y0 * iz = y at *
  have hy := fv_255 y
  have htop := byL_top (fv y)
  have hadd := byL_add_top hy
  have hor := or128_add (top_lt hy)
  have hlen : (byL 32 (fv y)).length = 32 := byL_len _ _
  have hl2 : (byL 32 (fv y + 2 ^ 255)).length = 32 := byL_len _ _
  unfold enc32
  generalize fv y / 256 ^ 31 = m at *
  have hpar : dig (fv x) 0 % 2 = fv x % 2 := by unfold dig; omega
  refine FSpec.of_W fRCvEncode_low (by simp) ?_
  simp only [initEnv]
  simp
  refine WO_callP [] rfl rfl hi (by simp) (by simp) ?_
  simp
  refine WO_callP [] rfl rfl hm1 (by simp) (by simp) ?_
  simp
  refine WO_callP [] rfl rfl hm2 (by simp) (by simp) ?_
  simp
  refine WO_callP [] rfl rfl hbts (by simp) (by simp) ?_
  simp [hlen]
  have hat : atF (q17 (fv x)) 0 = some (True, .int .i64 (dig (fv x) 0 : Nat)) := rfl
  have htm : ((dig (fv x) 0 : Nat) : Int).tmod 2 = ((fv x % 2 : Nat) : Int) := by rw [← hpar]; rfl
  obtain ⟨o, ho⟩ : ∃ o, o = fv x % 2 := ⟨_, rfl⟩
  rw [← ho] at htm ⊢
  simp [hat, htm]
  refine WC_dec (fun hodd => ?_) (fun hodd => ?_)
  · have ho1 : o = 1 := by omega
    have hge : (byL 32 (fv y))[31]'(by rw [hlen]; decide) = UInt8.ofNat m := by
      rw [List.getElem?_eq_getElem (by rw [hlen]; decide)] at htop
      exact Option.some.inj htop
    have hset : ((byL 32 (fv y)).map bv).set 31 (.int .u8 ((UInt8.ofNat (m + 128)).toNat : Int)) = (byL 32 (fv y + 2 ^ 255)).map bv := by
      rw [← hadd, List.map_set]; rfl
    rw [show 2 ^ 255 * o = 2 ^ 255 by rw [ho1]]
    generalize byL 32 (fv y + 2 ^ 255) = B2 at *
    generalize UInt8.ofNat m = u at *
    generalize UInt8.ofNat (m + 128) = u2 at *
    generalize byL 32 (fv y) = B at *
    simp [hlen, hl2, hge, hor, hset, List.take_of_length_le]
    exact fin_W (by simp)
  · have h0 : o = 0 := by omega
    simp [hlen, List.take_of_length_le]
    exact fin_W (by simp [h0])
end Go.Proofs.Ythgibibeoapfbaa
