/-
  Texts that belong together.
-/
import Derived.Test.YthgibibeoapfbaaeQ1
set_option linter.unusedSimpArgs false
set_option linter.unnecessarySimpa false
set_option linter.unusedVariables false
set_option linter.unusedSectionVars false
/-
  Field.
-/
namespace Go.Proofs.Ythgibibeoapfbaa
open Go Go.Fw
attribute [local simp] bv cleanL_bv toBytes_bv ltL_bv atF_drop WS_at_bytes W_nil W_skip W_seq W_reg W_draw W_drawP W_kill W_keep W_block W_blk W_exit W_ret WX_blk WX_c WX_lp WX_li W_li W_condT W_condF W_cond WC_true WC_false
  WR_nil WR_cons WR_o1 WR_o2 o1_chk o2_chk WR_grd WG_tt WG_ff WG_tf WG_ft WG_none WS_some WS_ok1 WSr_no WSr_some WSr_ok1 WSr_at_bytes WH_some WHA_some chkF_cons chkF_nil chkE_some chkE_ok1 chkE_at evF WO_mv WO_pick WO_bin WO_isNil WO_eqA WO_un WO_convI WO_toStr WO_ofStr WO_build WO_buildF WO_load WO_nilCheck WO_fieldAddr WO_field WO_idxA WO_idxS
  WO_ixA WO_slS WO_slA WO_len WO_lenK WO_appF WO_extract WO_s2a WO_iface WO_min WO_max WO_alloc WO_box WO_buildO WO_store WO_appO WO_copy WO_makeS WO_allocA WO_makeA WO_cvt cvtF_slice WO_look lookF_map alAF mkAF WO_func bind1_v bind2_v bindH_v bindH2_v bindS_v okO_v pickO_t pickO_f
  Env.keep Env.get Env.set Env.del Env.dels Env.setO Env.opd Env.opds Env.opdO Env.parts intF aggF fillA splice cleanL AV.clean bndF fldF_one fldF_many toStrF boxF buildOF
  loadF_rptr loadF_rptrN atF_zero atF_succ blk_cons_zero blk_cons_succ loadF_p loadF_pN atB_some atBN_some retPost resL one
  okc_bool cells_bool notStr_bool okc_int cells_int notStr_int okc_str cells_str notStr_str okc_nil cells_nil notStr_nil okc_ptr cells_ptr notStr_ptr okc_rptr cells_rptr notStr_rptr okc_slice cells_slice notStr_slice 
  okc_list cells_list notStr_list okc_func cells_func notStr_func okc_nilFunc cells_nilFunc notStr_nilFunc okc_iface cells_iface notStr_iface okc_nilIface cells_nilIface notStr_nilIface okc_agg cells_agg notStr_agg 
  okc_tuple cells_tuple notStr_tuple lenF_slice lenF_list lenF_str faF_ptr faF_rptr idxSF_slice idxSF_list idxAF_ptr idxAF_rptr ixAF_many ixAF_one convF_int unF_neg unF_xor unF_not nilF_0nil nilF_0ptr nilF_0rptr nilF_1 
  nilF_2nil nilF_2f nilF_3nil nilF_3f binF_int binF_beq binF_bne binF_sadd binF_seq binF_sne sliceCells_list sliceCells_str sliceCells_slice cutC_some szAV_list szAV_str szAV_slice oneSl_list oneSl_slice slSF_sliceS 
  slSF_sliceN slSF_list slAF_rptr slAF_ptr appFF_list appOF_list appOF_sliceN appOF_sliceS storeF_ptr copyF_slice extF_tuple s2aF_slice s2aF_list nchkF_ptr nchkF_rptr nchkF_f mmF_int ofStrF_str mkSF_int eqAF_agg
attribute [local irreducible] W WX WR WO WS WSr WH WHA WG WC FSpec
attribute [local simp] lendAll
attribute [local congr] W_cg WR_cg WO_cg WS_cg WSr_cg WH_cg WHA_cg WG_cg WC_cg WX_cg
attribute [local simp] Env.has AV.wkr wkrL AV.wkr_refl wkrL_refl AV.ltI ltL leHW hasW Env.lt AV.ids idsL AV.sub subL AV.ren AV.frz frzS frzP frzE frzL Heap.frz Blk.frz Blk.ren renL rnS rnP hasR leR idsL_bv subL_bv
attribute [local simp] cleanL_take cleanL_drop ltL_take ltL_drop idsL_take idsL_drop subL_take subL_drop cleanL_append ltL_append idsL_append subL_append
attribute [local simp] renE mvN mvH
attribute [local simp] fwd backH putL bwd
attribute [local simp] u8i u8e List.idxOf_cons
attribute [local simp] hasRW leRW
attribute [local simp] WS_at_map WSr_at_map WS_at_q4 WSr_at_q4 WS_at_mx mx_set' WS_at_arr WSr_at_arr loadWP splice_full Int.natCast_inj arr_zero32 fill_zero arr_set upd_fill
/-- The number of thirty-two bytes, if it is below the modulus. -/
def decP (n : Nat) : AV := if n < p25 then .tuple [.agg (q4 n), .int .i64 0] else .tuple [.agg (q4 0), .int .i64 7]
theorem or_val (m i q s x : Nat) (hq : q = i / 8) (hs : s = 8 * (i % 8)) (hm : m < 256 ^ i) (hx : x < 256) : bitI .or .u64 (wd m q : Nat) (IntKind.u64.wrap ((x : Int) * 2 ^ min s 64)) = (wd m q + x * 2 ^ s : Nat) := by
  have h : i % 8 < 8 := Nat.mod_lt _ (by decide)
  have h1 := wd_top hm
  rw [← hq, ← hs] at h1
  have h2 : x * 2 ^ s < 2 ^ 64 := by
    refine Nat.lt_of_lt_of_le (Nat.mul_lt_mul_of_pos_right hx (Nat.pow_pos (by decide))) ?_
    rw [show (256 : Nat) = 2 ^ 8 from rfl, ← Nat.pow_add]
    exact Nat.pow_le_pow_right (by decide) (by omega)
  have e : (x : Int) * 2 ^ min s 64 = ((x * 2 ^ s : Nat) : Int) := by rw [show min s 64 = s by omega]; simp
  rw [e, wrapu64, Nat.mod_eq_of_lt h2, bitI_or rfl (wd_lt m q) h2, or_shl _ _ _ h1]
theorem byN_take32 (l : List UInt8) (i : Nat) (h : i < l.length) : byN (l.take i) < 256 ^ i := by
  have := byN_lt (l.take i)
  rwa [List.length_take, Nat.min_eq_left (by omega)] at this
theorem fFdDecode_spec (l : List UInt8) (hl : l.length = 32) : FSpec Try.prog 61 [.agg (l.map bv)] [] (decP (byN l)) [] := by
  have hO := fFdModulus_spec
  have hM2 : p25 < 2 ^ 256 := by decide
  simp only [decP]
  generalize p25 = M at *
  refine FSpec.of_W fFdDecode_low (by simp) ?_
  simp only [initEnv]
  simp
  refine ⟨by omega, ?_⟩
  refine W_loop (X := { i : Nat // i ≤ 32 }) (fun i => [(2, .ptr 1 0), (4, .ptr 2 0), (7, .agg (l.map bv)), (8, .int .i64 i.1)]) (fun i => [some ⟨l.map bv, 23, true⟩, some ⟨q4 0, 49, true⟩, some ⟨q4 (byN (l.take i.1)), 49, true⟩]) (fun i => 32 - i.1) ⟨0, by omega⟩ retPost_le ?_ ?_
  · exact cut_w (by simp [hl, List.take_of_length_le, byN, q4_zero])
  · rintro ⟨i, hi⟩
    simp only
    simp
    refine WC_dec (fun h => ?_) (fun h => ?_)
    · have hil : i < l.length := by omega
      have hc : l[i]? = some l[i] := by simp
      obtain ⟨q, hq⟩ : ∃ q, q = i / 8 := ⟨_, rfl⟩
      obtain ⟨r, hr⟩ : ∃ r, r = i % 8 := ⟨_, rfl⟩
      obtain ⟨s, hs⟩ : ∃ s, s = 8 * r := ⟨_, rfl⟩
      have e1 : (i : Int).tdiv 8 = (q : Int) := by rw [hq]; rfl
      have e2 : (i : Int).tmod 8 = (r : Int) := by rw [hr]; rfl
      have e3 : IntKind.i64.wrap (8 * (r : Int)) = (s : Int) := by rw [wrap64s (by omega) (by omega)]; omega
      have hx := UInt8.toNat_lt l[i]
      have e4 := or_val (byN (l.take i)) i q s l[i].toNat hq (by omega) (byN_take32 l i hil) hx
      have e5 : (q : Int) < 4 := by omega
      have e6 : q < 4 := by omega
      have e7 := q4_put (byN (l.take i)) i l[i].toNat (byN_take32 l i hil) hx
      rw [← byN_take l i hil, ← hq, ← hr, ← hs] at e7
      have e8 : IntKind.u64.wrap ((l[i].toNat : Nat) : Int) = (l[i].toNat : Nat) := by rw [wrapu64]; congr 1; omega
      obtain ⟨v, hv⟩ : ∃ v, v = wd (byN (l.take i)) q + l[i].toNat * 2 ^ s := ⟨_, rfl⟩
      rw [← hv] at e4 e7
      simp [h, hc, e1, e2, e3, e4, e5, e6, e8, IntKind.bits, wrap64s (n := (q : Int)) (by omega) (by omega)]
      refine ⟨by omega, ⟨i + 1, by omega⟩, by simp; omega, ?_⟩
      exact cut_w (by simp [e7, wrap64s (n := (i : Int) + 1) (by omega) (by omega)])
    · have : i = 32 := by omega
      subst this
      have hlt : byN l < 2 ^ 256 := by have := byN_lt l; rw [hl] at this; exact this
      simp [List.take_of_length_le (show l.length ≤ 32 by omega)]
      refine WO_callP [] rfl rfl hO (by simp) (by simp) ?_
      simp
      refine WO_callP [] rfl rfl (fFdLess_spec (byN l) M hlt hM2) (by simp) (by simp) ?_
      simp
      refine WC_ndec (fun h => ?_) (fun h => ?_)
      · simp
        exact fin_W (by simp [h, q4_zero])
      · simp
        exact fin_W (by simp [h])
/-- Which of two numbers is a root. -/
def rootR' (p a r ri : Nat) : Nat := if r * r % p = a then r else r * ri % p
def rootF' (p a r ri : Nat) : Nat × Bool := if rootR' p a r ri * rootR' p a r ri % p = a then (if rootR' p a r ri % 2 = 1 then (if rootR' p a r ri = 0 then 0 else p - rootR' p a r ri) else rootR' p a r ri, true) else (0, false)
theorem fFdRoot_abs (p a e r ri : Nat) (ha : a < p) (hr : r < p) (hri : ri < p) (hp : p < 2 ^ 255)
    (hP : FSpec Try.prog 115 [.agg (q4 a), .agg [.int .u64 18446744073709551614, .int .u64 18446744073709551615, .int .u64 18446744073709551615, .int .u64 1152921504606846975]] [] (.agg (q4 r)) [])
    (hI : q4 ri = [.int .u64 14190309331451158704, .int .u64 3405592160176694392, .int .u64 3120150775007532967, .int .u64 3135389899092516619])
    (hT : ∀ a b, a < 2 ^ 256 → b < 2 ^ 256 → FSpec Try.prog 113 [.agg (q4 a), .agg (q4 b)] [] (.agg (q4 (a * b % p))) [])
    (hN : ∀ a, a < p → FSpec Try.prog 69 [.agg (q4 a)] [] (.agg (q4 (if a = 0 then 0 else p - a))) []) :
    FSpec Try.prog 68 [.agg (q4 a)] [] (.tuple [.agg (q4 (rootF' p a r ri).1), .bool (rootF' p a r ri).2]) [] := by
  have hO := fFdOdd_spec
  have hpos : 0 < p := by omega
  have hm : ∀ x, x % p < 2 ^ 255 := fun x => Nat.lt_trans (Nat.mod_lt x hpos) hp
  have hR1 : rootR' p a r ri < p := by unfold rootR'; split; exact hr; exact Nat.mod_lt _ hpos
  obtain ⟨r1, hr1⟩ : ∃ r1, r1 = rootR' p a r ri := ⟨_, rfl⟩
  obtain ⟨R, hR⟩ : ∃ R, R = rootF' p a r ri := ⟨_, rfl⟩
  rw [← hR]
  simp only [rootF', ← hr1] at hR
  rw [← hr1] at hR1
  have i4 : ∀ {x y : Nat}, x < 2 ^ 255 → y < 2 ^ 255 → (ints (q4 x) = ints (q4 y)) = (x = y) := fun hx hy => ints_q4 (by omega) (by omega)
  refine FSpec.of_W (c := (.seq (.reg fFdRoot_r0) (.seq (.reg fFdRoot_r1) (.seq (.seq (.draw fFdRoot_r2) (.cond (.t 12) fFdRoot_k0 (.kill [12] .skip))) (.keep [1, 2, 4] (.cut (.seq (.seq (.draw fFdRoot_r4) (.cond (.t 20) fFdRoot_k1 (.kill [20] .skip))) (.keep [2, 4] (.seq (.seq (.reg fFdRoot_r6) (.cond (.t 23) fFdRoot_k2 (.kill [23] .skip))) (.keep [2, 4] (.seq (.reg fFdRoot_r8) .ret))))))))))) fFdRoot_low (by simp) ?_
  simp only [initEnv]
  have hrest : W Try.prog 0 [It.c (.seq (.seq (.draw fFdRoot_r4) (.cond (.t 20) fFdRoot_k1 (.kill [20] .skip))) (.keep [2, 4] (.seq (.seq (.reg fFdRoot_r6) (.cond (.t 23) fFdRoot_k2 (.kill [23] .skip))) (.keep [2, 4] (.seq (.reg fFdRoot_r8) .ret)))))]
      [(1, .ptr 0 0), (2, .ptr 1 0), (4, .ptr 2 0)] [some ⟨q4 a, 49, true⟩, some ⟨q4 0, 49, true⟩, some ⟨q4 r1, 49, true⟩] (retPost fFdRoot_rs (fin 0 (.tuple [.agg (q4 R.1), .bool R.2]) [])) := by
    simp
    refine WO_callP [] rfl rfl (hT r1 r1 (by omega) (by omega)) (by simp) (by simp) ?_
    simp
    refine WC_ndec (fun h => ?_) (fun h => ?_)
    · rw [i4 (hm _) (by omega)] at h
      rw [hR, if_neg h]
      simp
      exact fin_W (by simp [q4_zero])
    · rw [i4 (hm _) (by omega)] at h
      rw [if_pos h] at hR
      simp
      refine WO_callP [] rfl rfl (hO r1) (by simp) (by simp) ?_
      simp
      refine WC_dec (fun h2 => ?_) (fun h2 => ?_)
      · rw [if_pos h2] at hR
        rw [hR]
        simp
        refine WO_callP [] rfl rfl (hN r1 hR1) (by simp) (by simp) ?_
        simp
        exact fin_W (by simp)
      · rw [if_neg h2] at hR
        rw [hR]
        simp
        exact fin_W (by simp)
  simp
  refine WO_callP [] rfl rfl hP (by simp) (by simp) ?_
  simp
  refine WO_callP [] rfl rfl (hT r r (by omega) (by omega)) (by simp) (by simp) ?_
  simp
  refine WC_ndec (fun h => ?_) (fun h => ?_)
  · rw [i4 (hm _) (by omega)] at h
    rw [rootR', if_neg h] at hr1
    have hTi := hT r ri (by omega) (by omega)
    rw [← hr1, hI] at hTi
    simp
    refine WO_callP [] rfl rfl hTi (by simp) (by simp) ?_
    simp
    exact W_cut (cut_w (by simp [q4_zero])) hrest
  · rw [i4 (hm _) (by omega)] at h
    rw [rootR', if_pos h] at hr1
    simp
    exact W_cut (cut_w (by simp [q4_zero, hr1])) hrest
theorem rootF_eq (a : Nat) : rootF' p25 a (a ^ ((p25 + 3) / 8) % p25) rootI = rootF a := by
  have h : a ^ ((p25 + 3) / 8) % p25 = pwm p25 a 256 ((p25 + 3) / 8) := (pwm_eq _ _ _ _ (by decide +kernel)).symm
  rw [h]
  rfl
theorem fFdRoot_spec (a : Nat) (ha : a < p25) : FSpec Try.prog 68 [.agg (q4 a)] [] (.tuple [.agg (q4 (rootF a).1), .bool (rootF a).2]) [] := by
  have hP := fFdPower_spec a ((p25 + 3) / 8) ha (by decide +kernel)
  have hE : q4 ((p25 + 3) / 8) = [.int .u64 18446744073709551614, .int .u64 18446744073709551615, .int .u64 18446744073709551615, .int .u64 1152921504606846975] := by kernel_rfl
  rw [hE] at hP
  have := fFdRoot_abs p25 a 0 _ rootI ha (Nat.mod_lt _ p25_pos) (by decide +kernel) p25_lt hP (by kernel_rfl) fFdTimes_spec fFdNeg_spec
  rwa [rootF_eq] at this
end Go.Proofs.Ythgibibeoapfbaa

/-
  Field.
-/
namespace Go.Proofs.Ythgibibeoapfbaa
open Go Go.Fw
attribute [local simp] bv cleanL_bv toBytes_bv ltL_bv atF_drop WS_at_bytes W_nil W_skip W_seq W_reg W_draw W_drawP W_kill W_keep W_block W_blk W_exit W_ret WX_blk WX_c WX_lp WX_li W_li W_condT W_condF W_cond WC_true WC_false
  WR_nil WR_cons WR_o1 WR_o2 o1_chk o2_chk WR_grd WG_tt WG_ff WG_tf WG_ft WG_none WS_some WS_ok1 WSr_no WSr_some WSr_ok1 WSr_at_bytes WH_some WHA_some chkF_cons chkF_nil chkE_some chkE_ok1 chkE_at evF WO_mv WO_pick WO_bin WO_isNil WO_eqA WO_un WO_convI WO_toStr WO_ofStr WO_build WO_buildF WO_load WO_nilCheck WO_fieldAddr WO_field WO_idxA WO_idxS
  WO_ixA WO_slS WO_slA WO_len WO_lenK WO_appF WO_extract WO_s2a WO_iface WO_min WO_max WO_alloc WO_box WO_buildO WO_store WO_appO WO_copy WO_makeS WO_allocA WO_makeA WO_cvt cvtF_slice WO_look lookF_map alAF mkAF WO_func bind1_v bind2_v bindH_v bindH2_v bindS_v okO_v pickO_t pickO_f
  Env.keep Env.get Env.set Env.del Env.dels Env.setO Env.opd Env.opds Env.opdO Env.parts intF aggF fillA splice cleanL AV.clean bndF fldF_one fldF_many toStrF boxF buildOF
  loadF_rptr loadF_rptrN atF_zero atF_succ blk_cons_zero blk_cons_succ loadF_p loadF_pN atB_some atBN_some retPost resL one
  okc_bool cells_bool notStr_bool okc_int cells_int notStr_int okc_str cells_str notStr_str okc_nil cells_nil notStr_nil okc_ptr cells_ptr notStr_ptr okc_rptr cells_rptr notStr_rptr okc_slice cells_slice notStr_slice 
  okc_list cells_list notStr_list okc_func cells_func notStr_func okc_nilFunc cells_nilFunc notStr_nilFunc okc_iface cells_iface notStr_iface okc_nilIface cells_nilIface notStr_nilIface okc_agg cells_agg notStr_agg 
  okc_tuple cells_tuple notStr_tuple lenF_slice lenF_list lenF_str faF_ptr faF_rptr idxSF_slice idxSF_list idxAF_ptr idxAF_rptr ixAF_many ixAF_one convF_int unF_neg unF_xor unF_not nilF_0nil nilF_0ptr nilF_0rptr nilF_1 
  nilF_2nil nilF_2f nilF_3nil nilF_3f binF_int binF_beq binF_bne binF_sadd binF_seq binF_sne sliceCells_list sliceCells_str sliceCells_slice cutC_some szAV_list szAV_str szAV_slice oneSl_list oneSl_slice slSF_sliceS 
  slSF_sliceN slSF_list slAF_rptr slAF_ptr appFF_list appOF_list appOF_sliceN appOF_sliceS storeF_ptr copyF_slice extF_tuple s2aF_slice s2aF_list nchkF_ptr nchkF_rptr nchkF_f mmF_int ofStrF_str mkSF_int eqAF_agg
attribute [local irreducible] W WX WR WO WS WSr WH WHA WG WC FSpec
attribute [local simp] lendAll
attribute [local congr] W_cg WR_cg WO_cg WS_cg WSr_cg WH_cg WHA_cg WG_cg WC_cg WX_cg
attribute [local simp] Env.has AV.wkr wkrL AV.wkr_refl wkrL_refl AV.ltI ltL leHW hasW Env.lt AV.ids idsL AV.sub subL AV.ren AV.frz frzS frzP frzE frzL Heap.frz Blk.frz Blk.ren renL rnS rnP hasR leR idsL_bv subL_bv
attribute [local simp] cleanL_take cleanL_drop ltL_take ltL_drop idsL_take idsL_drop subL_take subL_drop cleanL_append ltL_append idsL_append subL_append
attribute [local simp] renE mvN mvH
attribute [local simp] fwd backH putL bwd
attribute [local simp] u8i u8e List.idxOf_cons
attribute [local simp] hasRW leRW
attribute [local simp] WS_at_map WSr_at_map WS_at_arr WSr_at_arr loadWP splice_full Int.natCast_inj arr_zero32 z17 z34 fill_zero arr_set arr_take
theorem fQP_spec : FSpec Try.prog 73 [] [] (.agg (q17 p25)) [] := by
  have e1 : ∀ i, i < 17 → (arr .i64 17 (fill i fun _ => 32767)).set i (.int .i64 32767) = arr .i64 17 (fill (i + 1) fun _ => 32767) := fun i hi => by
    rw [← upd_fill]; exact arr_set .i64 17 _ i 32767
  have e2 : (arr .i64 17 (fill 17 fun _ => 32767)).set 0 (.int .i64 32749) = q17 p25 := by
    refine (arr_set .i64 17 _ 0 32749).trans (arr_ext fun k hk => ?_)
    have : ∀ k, k < 17 → upd (fill 17 fun _ => 32767) 0 32749 k = dig p25 k := by decide +kernel
    exact this k hk
  refine FSpec.of_W fQP_low (by simp) ?_
  simp only [initEnv]
  simp
  refine W_loop (X := { i : Nat // i ≤ 17 }) (fun i => [(0, .ptr 0 0), (1, .ptr 1 0), (2, .int .i64 i.1)]) (fun i => [some ⟨arr .i64 17 fun _ => 0, 55, true⟩, some ⟨arr .i64 17 (fill i.1 fun _ => 32767), 55, true⟩]) (fun i => 17 - i.1) ⟨0, by omega⟩ retPost_le ?_ ?_
  · exact cut_w (by simp)
  · rintro ⟨i, hi⟩
    simp only
    simp
    refine WC_dec (fun h => ?_) (fun h => ?_)
    · simp
      refine ⟨h, by omega, ⟨i + 1, by omega⟩, by simp; omega, ?_⟩
      exact cut_w (by simp [e1 i (by omega), wrap64s (n := (i : Int) + 1) (by omega) (by omega)])
    · have : i = 17 := by omega
      subst this
      simp [e2]
      exact fin_W (by simp)
theorem fQLess_spec (a b : Nat) (ha : a < 2 ^ 255) (hb : b < 2 ^ 255) : FSpec Try.prog 72 [.agg (q17 a), .agg (q17 b)] [] (.bool (decide (a < b))) [] := by
  rw [two255] at ha hb
  simp only [q17]
  refine FSpec.of_W fQLess_low (by simp) ?_
  simp only [initEnv]
  simp
  refine W_loop (X := { i : Nat // i ≤ 17 ∧ a / 32768 ^ i = b / 32768 ^ i }) (fun i => [(2, .ptr 0 0), (3, .ptr 1 0), (5, .int .i64 ((i.1 : Int) - 1))]) (fun _ => [some ⟨arr .i64 17 (dig a), 55, true⟩, some ⟨arr .i64 17 (dig b), 55, true⟩]) (fun i => i.1) ⟨17, by omega, by rw [Nat.div_eq_of_lt ha, Nat.div_eq_of_lt hb]⟩ retPost_le ?_ ?_
  · exact cut_w (by simp)
  · rintro ⟨i, hi, he⟩
    obtain _ | k := i
    · simp
      refine fin_W ?_
      simp at he
      simp [he]
    · have h4 : k < 17 := by omega
      simp [h4]
      refine ⟨by omega, ?_⟩
      refine WC_ndec (fun h => ?_) (fun h => ?_)
      · simp [h4]
        refine ⟨by omega, ?_⟩
        refine fin_W ?_
        simp
        rw [dig_cmp he (by omega)]
      · simp
        refine ⟨⟨k, by omega, dig_eq he (by omega)⟩, by simp, ?_⟩
        exact cut_w (by simp [wrap64s (n := (k : Int) - 1) (by omega) (by omega)])
/-- A number less another one, that isn't greater. -/
theorem fQUnder_spec (a b : Nat) (ha : a < 2 ^ 255) (h : b ≤ a) : FSpec Try.prog 120 [.agg (q17 a), .agg (q17 b)] [] (.agg (q17 (a - b))) [] := by
  have hva : vs (dig a) 17 = a := vs17 ha
  have hvb : vs (dig b) 17 = b := vs17 (by omega)
  simp only [q17]
  refine FSpec.of_W fQUnder_low (by simp) ?_
  simp only [initEnv]
  simp
  refine W_loop (X := { x : Nat × (Nat → Nat) × Nat // x.1 ≤ 17 ∧ (∀ k, k < x.1 → x.2.1 k < 32768) ∧ (∀ k, x.1 ≤ k → x.2.1 k = dig a k) ∧ x.2.2 ≤ 1 ∧ vs x.2.1 x.1 + vs (dig b) x.1 = vs (dig a) x.1 + x.2.2 * 32768 ^ x.1 })
    (fun x => [(2, .ptr 0 0), (3, .ptr 1 0), (4, .ptr 2 0), (5, .int .i64 (x.1.2.2 : Nat)), (6, .int .i64 x.1.1)]) (fun x => [some ⟨arr .i64 17 x.1.2.1, 55, true⟩, some ⟨arr .i64 17 (dig b), 55, true⟩, some ⟨arr .i64 17 fun _ => 0, 55, true⟩]) (fun x => 17 - x.1.1) ⟨(0, dig a, 0), by simp, by simp, fun _ _ => rfl, by simp, by simp [vs]⟩ retPost_le ?_ ?_
  · exact cut_w (by simp)
  · rintro ⟨⟨i, g, o⟩, hi, hg, hr, ho, hv⟩
    simp only at hi hg hr ho hv ⊢
    simp
    refine WC_dec (fun hl => ?_) (fun hl => ?_)
    · have h1 := dig_lt a i
      have h2 := dig_lt b i
      have hgi := hr i (Nat.le_refl _)
      obtain ⟨x, hx⟩ : ∃ x, x = dig a i := ⟨_, rfl⟩
      obtain ⟨y, hy⟩ : ∃ y, y = dig b i := ⟨_, rfl⟩
      rw [← hx] at h1 hgi
      rw [← hy] at h2
      have e1 : IntKind.i64.wrap ((x : Int) - y) = (x : Int) - y := wrap64s (by omega) (by omega)
      have e2 : IntKind.i64.wrap ((x : Int) - y - o) = (x : Int) - y - o := wrap64s (by omega) (by omega)
      have nx : ∀ (z : Nat) (o' : Nat), z < 32768 → o' ≤ 1 → z + y + o = x + o' * 32768 → ∀ k, k = i + 1 → vs (upd g i z) (i + 1) + vs (dig b) (i + 1) = vs (dig a) (i + 1) + o' * 32768 ^ (i + 1) := by
        intro z o' hz ho' he k hk
        have E := congrArg (· * 32768 ^ i) he
        simp only [Nat.add_mul] at E
        rw [vs, vs, vs, vs_upd (Nat.le_refl _), show upd g i z i = z from if_pos rfl, ← hx, ← hy, Nat.pow_succ]
        have : o' * (32768 ^ i * 32768) = o' * 32768 * 32768 ^ i := by ac_rfl
        omega
      simp [hgi, ← hy, e1, e2]
      repeat (refine ⟨by omega, ?_⟩)
      have w1 : IntKind.i64.wrap ((i : Int) + 1) = (i : Int) + 1 := wrap64s (by omega) (by omega)
      refine WC_dec (fun hn => ?_) (fun hn => ?_)
      · obtain ⟨z, hz⟩ : ∃ z : Nat, (z : Int) = (x : Int) - y - o + 32768 := ⟨x + 32768 - y - o, by omega⟩
        have e3 : IntKind.i64.wrap ((x : Int) - y - o + 32768) = (z : Int) := by rw [hz]; exact wrap64s (by omega) (by omega)
        simp [e3]
        repeat (refine ⟨by omega, ?_⟩)
        refine ⟨⟨(i + 1, upd g i z, 1), by simp only; omega, ?_, ?_, by simp, nx z 1 (by omega) (by omega) (by omega) (i + 1) rfl⟩, by simp only; omega, cut_w (by simp [w1])⟩
        · intro k hk
          simp only at hk ⊢
          unfold upd
          split
          · omega
          · exact hg k (by omega)
        · intro k hk
          simp only at hk ⊢
          unfold upd
          rw [if_neg (by omega)]
          exact hr k (by omega)
      · obtain ⟨z, hz⟩ : ∃ z : Nat, (z : Int) = (x : Int) - y - o := ⟨x - y - o, by omega⟩
        rw [← hz]
        simp
        repeat (refine ⟨by omega, ?_⟩)
        refine ⟨⟨(i + 1, upd g i z, 0), by simp only; omega, ?_, ?_, by simp, nx z 0 (by omega) (by omega) (by omega) (i + 1) rfl⟩, by simp only; omega, cut_w (by simp [w1])⟩
        · intro k hk
          simp only at hk ⊢
          unfold upd
          split
          · omega
          · exact hg k (by omega)
        · intro k hk
          simp only at hk ⊢
          unfold upd
          rw [if_neg (by omega)]
          exact hr k (by omega)
    · have hi17 : i = 17 := by omega
      subst hi17
      rw [hva, hvb] at hv
      have hlt := vs17_lt hg
      rw [← two255] at hv
      have ho0 : o = 0 := by omega
      have he : vs g 17 = a - b := by omega
      have hq := q17_vs hg
      rw [he, q17] at hq
      simp [hq]
      exact fin_W (by simp)
end Go.Proofs.Ythgibibeoapfbaa

/-
  Field.
-/
namespace Go.Proofs.Ythgibibeoapfbaa
open Go Go.Fw
attribute [local simp] bv cleanL_bv toBytes_bv ltL_bv atF_drop WS_at_bytes W_nil W_skip W_seq W_reg W_draw W_drawP W_kill W_keep W_block W_blk W_exit W_ret WX_blk WX_c WX_lp WX_li W_li W_condT W_condF W_cond WC_true WC_false
  WR_nil WR_cons WR_o1 WR_o2 o1_chk o2_chk WR_grd WG_tt WG_ff WG_tf WG_ft WG_none WS_some WS_ok1 WSr_no WSr_some WSr_ok1 WSr_at_bytes WH_some WHA_some chkF_cons chkF_nil chkE_some chkE_ok1 chkE_at evF WO_mv WO_pick WO_bin WO_isNil WO_eqA WO_un WO_convI WO_toStr WO_ofStr WO_build WO_buildF WO_load WO_nilCheck WO_fieldAddr WO_field WO_idxA WO_idxS
  WO_ixA WO_slS WO_slA WO_len WO_lenK WO_appF WO_extract WO_s2a WO_iface WO_min WO_max WO_alloc WO_box WO_buildO WO_store WO_appO WO_copy WO_makeS WO_allocA WO_makeA WO_cvt cvtF_slice WO_look lookF_map alAF mkAF WO_func bind1_v bind2_v bindH_v bindH2_v bindS_v okO_v pickO_t pickO_f
  Env.keep Env.get Env.set Env.del Env.dels Env.setO Env.opd Env.opds Env.opdO Env.parts intF aggF fillA splice cleanL AV.clean bndF fldF_one fldF_many toStrF boxF buildOF
  loadF_rptr loadF_rptrN atF_zero atF_succ blk_cons_zero blk_cons_succ loadF_p loadF_pN atB_some atBN_some retPost resL one
  okc_bool cells_bool notStr_bool okc_int cells_int notStr_int okc_str cells_str notStr_str okc_nil cells_nil notStr_nil okc_ptr cells_ptr notStr_ptr okc_rptr cells_rptr notStr_rptr okc_slice cells_slice notStr_slice 
  okc_list cells_list notStr_list okc_func cells_func notStr_func okc_nilFunc cells_nilFunc notStr_nilFunc okc_iface cells_iface notStr_iface okc_nilIface cells_nilIface notStr_nilIface okc_agg cells_agg notStr_agg 
  okc_tuple cells_tuple notStr_tuple lenF_slice lenF_list lenF_str faF_ptr faF_rptr idxSF_slice idxSF_list idxAF_ptr idxAF_rptr ixAF_many ixAF_one convF_int unF_neg unF_xor unF_not nilF_0nil nilF_0ptr nilF_0rptr nilF_1 
  nilF_2nil nilF_2f nilF_3nil nilF_3f binF_int binF_beq binF_bne binF_sadd binF_seq binF_sne sliceCells_list sliceCells_str sliceCells_slice cutC_some szAV_list szAV_str szAV_slice oneSl_list oneSl_slice slSF_sliceS 
  slSF_sliceN slSF_list slAF_rptr slAF_ptr appFF_list appOF_list appOF_sliceN appOF_sliceS storeF_ptr copyF_slice extF_tuple s2aF_slice s2aF_list nchkF_ptr nchkF_rptr nchkF_f mmF_int ofStrF_str mkSF_int eqAF_agg
attribute [local irreducible] W WX WR WO WS WSr WH WHA WG WC FSpec
attribute [local simp] lendAll
attribute [local congr] W_cg WR_cg WO_cg WS_cg WSr_cg WH_cg WHA_cg WG_cg WC_cg WX_cg
attribute [local simp] Env.has AV.wkr wkrL AV.wkr_refl wkrL_refl AV.ltI ltL leHW hasW Env.lt AV.ids idsL AV.sub subL AV.ren AV.frz frzS frzP frzE frzL Heap.frz Blk.frz Blk.ren renL rnS rnP hasR leR idsL_bv subL_bv
attribute [local simp] cleanL_take cleanL_drop ltL_take ltL_drop idsL_take idsL_drop subL_take subL_drop cleanL_append ltL_append idsL_append subL_append
attribute [local simp] renE mvN mvH
attribute [local simp] fwd backH putL bwd
attribute [local simp] u8i u8e List.idxOf_cons
attribute [local simp] hasRW leRW
attribute [local simp] WS_at_map WSr_at_map WS_at_arr WSr_at_arr loadWP splice_full Int.natCast_inj arr_zero32 z17 z34 fill_zero arr_set arr_take
/-- What is known of digits ahead of a round of carries. -/
structure Rnd (r : Nat) (g : Nat → Nat) (V : Nat) : Prop where
  le : ∀ k, k < 17 → g k ≤ 2 ^ 40
  one : 1 ≤ r → vs g 17 < 2 ^ 255 + 2 ^ 32
  two : 2 ≤ r → vs g 17 < 2 ^ 255
  three : 3 ≤ r → ∀ k, k < 17 → g k < 32768
  mod : vs g 17 % p25 = V % p25
theorem Rnd.next {r : Nat} {g g' : Nat → Nat} {V c : Nat} (h : Rnd r g V) (hg : ∀ k, k < 17 → g' k < 32768) (hc : c ≤ 2 ^ 26) (hv : vs g' 17 + c * 2 ^ 255 = vs g 17) : Rnd (r + 1) (upd g' 0 (g' 0 + 19 * c)) V := by
  have hlt := vs17_lt hg
  have hu : vs (upd g' 0 (g' 0 + 19 * c)) 17 = vs g' 17 + 19 * c * 32768 ^ 0 := vs_upd_add (by decide)
  rw [Nat.pow_zero, Nat.mul_one] at hu
  refine ⟨fun k hk => ?_, fun h1 => ?_, fun h2 => ?_, fun h3 k hk => ?_, ?_⟩
  · unfold upd
    split
    · have := hg 0 (by decide); omega
    · have := hg k hk; omega
  · rw [hu]; omega
  · rw [hu]; have := h.one (by omega); omega
  · have h4 := h.two (by omega)
    have : c = 0 := by omega
    subst this
    unfold upd
    split
    · have := hg 0 (by decide); omega
    · exact hg k hk
  · rw [hu, ← h.mod, ← hv, Nat.mul_comm c, mod19]
theorem fQSettle_spec (g0 : Nat → Nat) (h0 : ∀ k, k < 17 → g0 k ≤ 2 ^ 40) : FSpec Try.prog 117 [.agg (arr .i64 17 g0)] [] (.agg (q17 (vs g0 17 % p25))) [] := by
  have hp := p25_lt
  have hP := fQP_spec
  have hpos := p25_pos
  have h2p : 2 ^ 255 < 2 * p25 := by decide
  refine FSpec.of_W fQSettle_low (by simp) ?_
  simp only [initEnv]
  simp
  refine W_loop (X := { x : Nat × (Nat → Nat) // x.1 ≤ 4 ∧ Rnd x.1 x.2 (vs g0 17) }) (fun x => [(1, .ptr 0 0), (2, .ptr 1 0), (3, .int .i64 x.1.1)]) (fun x => [some ⟨arr .i64 17 x.1.2, 55, true⟩, some ⟨arr .i64 17 fun _ => 0, 55, true⟩]) (fun x => 4 - x.1.1)
    ⟨(0, g0), by simp, h0, by simp, by simp, by simp, rfl⟩ retPost_le ?_ ?_
  · exact cut_w (by simp)
  · rintro ⟨⟨r, g⟩, hr, hR⟩
    simp only at hr hR ⊢
    simp
    refine WC_dec (fun hl => ?_) (fun hl => ?_)
    · simp
      refine W_loop (X := { x : Nat × (Nat → Nat) × Nat // x.1 ≤ 17 ∧ (∀ k, k < x.1 → x.2.1 k < 32768) ∧ (∀ k, x.1 ≤ k → x.2.1 k = g k) ∧ x.2.2 ≤ 2 ^ 26 ∧ vs x.2.1 x.1 + x.2.2 * 32768 ^ x.1 = vs g x.1 })
        (fun x => [(1, .ptr 0 0), (2, .ptr 1 0), (3, .int .i64 r), (4, .int .i64 (x.1.2.2 : Nat)), (5, .int .i64 x.1.1)]) (fun x => [some ⟨arr .i64 17 x.1.2.1, 55, true⟩, some ⟨arr .i64 17 fun _ => 0, 55, true⟩]) (fun x => 17 - x.1.1)
        ⟨(0, g, 0), by simp, by simp, fun _ _ => rfl, by simp, by simp [vs]⟩ retPost_le ?_ ?_
      · exact cut_w (by simp)
      · rintro ⟨⟨i, g', c⟩, hi, hg, hr', hc, hv⟩
        simp only at hi hg hr' hc hv ⊢
        simp
        refine WC_dec (fun hl => ?_) (fun hl => ?_)
        · have hx := hr' i (Nat.le_refl _)
          have hle := hR.le i (by omega)
          obtain ⟨x, hxe⟩ : ∃ x, x = g i := ⟨_, rfl⟩
          rw [← hxe] at hx hle
          obtain ⟨q, hq⟩ : ∃ q, q = (x + c) / 32768 := ⟨_, rfl⟩
          obtain ⟨z, hz⟩ : ∃ z, z = (x + c) % 32768 := ⟨_, rfl⟩
          have e1 : IntKind.i64.wrap ((x : Int) + c) = ((x + c : Nat) : Int) := by rw [← Int.natCast_add]; exact wrap64 (by omega) (by omega)
          have e2 : ((x + c : Nat) : Int).tmod 32768 = (z : Nat) := by rw [hz]; rfl
          have e3 : ((x + c : Nat) : Int).tdiv 32768 = (q : Nat) := by rw [hq]; rfl
          have e4 : IntKind.i64.wrap (q : Int) = q := wrap64 (by omega) (by omega)
          have w1 : IntKind.i64.wrap ((i : Int) + 1) = (i : Int) + 1 := wrap64s (by omega) (by omega)
          rw [Int.natCast_add] at e1 e2 e3
          simp [hx, e1, e2, e3, e4]
          repeat (refine ⟨by omega, ?_⟩)
          refine ⟨⟨(i + 1, upd g' i z, q), by simp only; omega, ?_, ?_, by simp only; omega, ?_⟩, by simp only; omega, cut_w (by simp [w1])⟩
          · intro k hk
            simp only at hk ⊢
            unfold upd
            split
            · omega
            · exact hg k (by omega)
          · intro k hk
            simp only at hk ⊢
            unfold upd
            rw [if_neg (by omega)]
            exact hr' k (by omega)
          · simp only
            have E : z + 32768 * q = x + c := by omega
            have E2 := congrArg (· * 32768 ^ i) E
            simp only [Nat.add_mul] at E2
            rw [vs, vs, vs_upd (Nat.le_refl _), show upd g' i z i = z from if_pos rfl, ← hxe, Nat.pow_succ]
            have : q * (32768 ^ i * 32768) = 32768 * q * 32768 ^ i := by ac_rfl
            omega
        · have hi17 : i = 17 := by omega
          subst hi17
          rw [← two255] at hv
          have hN := hR.next hg hc hv
          have h00 := hg 0 (by decide)
          obtain ⟨a, ha⟩ : ∃ a, a = g' 0 := ⟨_, rfl⟩
          rw [← ha] at hN h00
          have e1 : IntKind.i64.wrap (19 * (c : Int)) = ((19 * c : Nat) : Int) := by rw [show 19 * (c : Int) = ((19 * c : Nat) : Int) by omega]; exact wrap64 (by omega) (by omega)
          obtain ⟨b, hb⟩ : ∃ b, b = a + 19 * c := ⟨_, rfl⟩
          have e2 : IntKind.i64.wrap ((a : Int) + ((19 * c : Nat) : Int)) = (b : Nat) := by rw [← Int.natCast_add, hb]; exact wrap64 (by omega) (by omega)
          rw [← hb] at hN
          have e3 : IntKind.i64.wrap ((r : Int) + 1) = (r : Int) + 1 := wrap64s (by omega) (by omega)
          simp only [Int.natCast_mul, Int.cast_ofNat_Int] at e1 e2
          simp [← ha, e1, e2]
          repeat (refine ⟨by omega, ?_⟩)
          exact ⟨⟨(r + 1, upd g' 0 b), by simp only; omega, hN⟩, by simp only; omega, cut_w (by simp [e3])⟩
    · have : r = 4 := by omega
      subst this
      have hd := hR.three (by decide)
      have hlt := vs17_lt hd
      have hm := hR.mod
      obtain ⟨n, hn⟩ : ∃ n, n = vs g 17 := ⟨_, rfl⟩
      rw [q17_vs hd, ← hn]
      rw [← hn] at hlt hm
      rw [← hm]
      simp
      refine WO_callP [] rfl rfl hP (by simp) (by simp) ?_
      simp
      refine WO_callP [] rfl rfl (fQLess_spec n p25 hlt hp) (by simp) (by simp) ?_
      simp
      refine WC_ndec (fun h => ?_) (fun h => ?_)
      · simp
        refine WO_callP [] rfl rfl hP (by simp) (by simp) ?_
        simp
        refine WO_callP [] rfl rfl (fQUnder_spec n p25 hlt (by omega)) (by simp) (by simp) ?_
        have : n % p25 = n - p25 := by rw [Nat.mod_eq_sub_mod (by omega), Nat.mod_eq_of_lt (by omega)]
        rw [this]
        simp
        exact fin_W (by simp)
      · rw [Nat.mod_eq_of_lt h]
        simp
        exact fin_W (by simp)
theorem fQSmall_spec (n : Nat) (h : n ≤ 2 ^ 40) : FSpec Try.prog 74 [.int .i64 (n : Nat)] [] (.agg (q17 (n % p25))) [] := by
  have e : vs (upd (fun _ => 0) 0 n) 17 = n := by
    have := vs_upd_add (g := fun _ => 0) (i := 0) (v := n) (m := 17) (by decide)
    rw [Nat.zero_add] at this
    rw [this]
    have z : vs (fun _ => 0) 17 = 0 := by decide
    rw [z, Nat.pow_zero]; omega
  have hS := fQSettle_spec (upd (fun _ => 0) 0 n) (fun k _ => by unfold upd; split; exact h; exact Nat.zero_le _)
  rw [e] at hS
  refine FSpec.of_W fQSmall_low (by simp) ?_
  simp only [initEnv]
  simp
  refine WO_callP [] rfl rfl hS (by simp) (by simp) ?_
  simp
  exact fin_W (by simp)
theorem fQAdd_spec (a b : Nat) (ha : a < 2 ^ 255) (hb : b < 2 ^ 255) : FSpec Try.prog 78 [.agg (q17 a), .agg (q17 b)] [] (.agg (q17 ((a + b) % p25))) [] := by
  have hS := fQSettle_spec (fun k => dig a k + dig b k) (fun k _ => by have := dig_lt a k; have := dig_lt b k; omega)
  rw [vs_add, vs17 ha, vs17 hb] at hS
  refine FSpec.of_W fQAdd_low (by simp) ?_
  simp only [initEnv]
  simp [q17]
  refine W_loop (X := { i : Nat // i ≤ 17 }) (fun i => [(2, .ptr 0 0), (3, .ptr 1 0), (4, .ptr 2 0), (5, .int .i64 i.1)]) (fun i => [some ⟨arr .i64 17 (fun k => if k < i.1 then dig a k + dig b k else dig a k), 55, true⟩, some ⟨arr .i64 17 (dig b), 55, true⟩, some ⟨arr .i64 17 fun _ => 0, 55, true⟩]) (fun i => 17 - i.1) ⟨0, by omega⟩ retPost_le ?_ ?_
  · exact cut_w (by simp)
  · rintro ⟨i, hi⟩
    simp only
    simp
    refine WC_dec (fun h => ?_) (fun h => ?_)
    · have h1 := dig_lt a i
      have h2 := dig_lt b i
      have e1 : IntKind.i64.wrap ((dig a i : Int) + (dig b i : Int)) = ((dig a i + dig b i : Nat) : Int) := by rw [← Int.natCast_add]; exact wrap64 (by omega) (by omega)
      have w1 : IntKind.i64.wrap ((i : Int) + 1) = (i : Int) + 1 := wrap64s (by omega) (by omega)
      have e2 : upd (fun k => if k < i then dig a k + dig b k else dig a k) i (dig a i + dig b i) = fun k => if k < i + 1 then dig a k + dig b k else dig a k := by
        funext k
        unfold upd
        split
        · rename_i q; subst q; rw [if_pos (Nat.lt_succ_self _)]
        · show (if k < i then dig a k + dig b k else dig a k) = if k < i + 1 then dig a k + dig b k else dig a k
          by_cases hk : k < i
          · rw [if_pos hk, if_pos (by omega)]
          · rw [if_neg hk, if_neg (by omega)]
      obtain ⟨z, hz⟩ : ∃ z, z = dig a i + dig b i := ⟨_, rfl⟩
      rw [← hz] at e1 e2
      simp [e1, e2]
      repeat (refine ⟨by omega, ?_⟩)
      exact ⟨⟨i + 1, by omega⟩, by simp; omega, cut_w (by simp [w1])⟩
    · have : i = 17 := by omega
      subst this
      have e3 : arr .i64 17 (fun k => if k < 17 then dig a k + dig b k else dig a k) = arr .i64 17 (fun k => dig a k + dig b k) := arr_ext fun k hk => by rw [if_pos hk]
      simp [e3]
      refine WO_callP [] rfl rfl hS (by simp) (by simp) ?_
      simp
      exact fin_W (by simp [q17])
theorem settle_q17 (n : Nat) (hn : n < 2 ^ 255) : FSpec Try.prog 117 [.agg (q17 n)] [] (.agg (q17 (n % p25))) [] := by
  have hS := fQSettle_spec (dig n) (fun k _ => by have := dig_lt n k; omega)
  rwa [vs17 hn] at hS
theorem fQNeg_spec (a : Nat) (ha : a < p25) : FSpec Try.prog 80 [.agg (q17 a)] [] (.agg (q17 (negP a))) [] := by
  have hp := p25_lt
  have hU := fQUnder_spec p25 a hp (by omega)
  have hS := settle_q17 (p25 - a) (by omega)
  have e : (p25 - a) % p25 = negP a := by
    unfold negP; split
    · rename_i q; rw [q, Nat.sub_zero, Nat.mod_self]
    · exact Nat.mod_eq_of_lt (by omega)
  rw [e] at hS
  refine FSpec.of_W fQNeg_low (by simp) ?_
  simp only [initEnv]
  simp
  refine WO_callP [] rfl rfl fQP_spec (by simp) (by simp) ?_
  simp
  refine WO_callP [] rfl rfl hU (by simp) (by simp) ?_
  simp
  refine WO_callP [] rfl rfl hS (by simp) (by simp) ?_
  simp
  exact fin_W (by simp)
theorem fQSub_spec (a b : Nat) (ha : a < p25) (hb : b < p25) : FSpec Try.prog 76 [.agg (q17 a), .agg (q17 b)] [] (.agg (q17 (subP a b))) [] := by
  have hp := p25_lt
  have hn := negP_lt b
  have hA := fQAdd_spec a (negP b) (by omega) (by omega)
  refine FSpec.of_W fQSub_low (by simp) ?_
  simp only [initEnv]
  simp
  refine WO_callP [] rfl rfl (fQNeg_spec b hb) (by simp) (by simp) ?_
  simp
  refine WO_callP [] rfl rfl hA (by simp) (by simp) ?_
  simp
  exact fin_W (by simp [subP])
end Go.Proofs.Ythgibibeoapfbaa

/-
  Field.
-/
namespace Go.Proofs.Ythgibibeoapfbaa
open Go Go.Fw
attribute [local simp] bv cleanL_bv toBytes_bv ltL_bv atF_drop WS_at_bytes W_nil W_skip W_seq W_reg W_draw W_drawP W_kill W_keep W_block W_blk W_exit W_ret WX_blk WX_c WX_lp WX_li W_li W_condT W_condF W_cond WC_true WC_false
  WR_nil WR_cons WR_o1 WR_o2 o1_chk o2_chk WR_grd WG_tt WG_ff WG_tf WG_ft WG_none WS_some WS_ok1 WSr_no WSr_some WSr_ok1 WSr_at_bytes WH_some WHA_some chkF_cons chkF_nil chkE_some chkE_ok1 chkE_at evF WO_mv WO_pick WO_bin WO_isNil WO_eqA WO_un WO_convI WO_toStr WO_ofStr WO_build WO_buildF WO_load WO_nilCheck WO_fieldAddr WO_field WO_idxA WO_idxS
  WO_ixA WO_slS WO_slA WO_len WO_lenK WO_appF WO_extract WO_s2a WO_iface WO_min WO_max WO_alloc WO_box WO_buildO WO_store WO_appO WO_copy WO_makeS WO_allocA WO_makeA WO_cvt cvtF_slice WO_look lookF_map alAF mkAF WO_func bind1_v bind2_v bindH_v bindH2_v bindS_v okO_v pickO_t pickO_f
  Env.keep Env.get Env.set Env.del Env.dels Env.setO Env.opd Env.opds Env.opdO Env.parts intF aggF fillA splice cleanL AV.clean bndF fldF_one fldF_many toStrF boxF buildOF
  loadF_rptr loadF_rptrN atF_zero atF_succ blk_cons_zero blk_cons_succ loadF_p loadF_pN atB_some atBN_some retPost resL one
  okc_bool cells_bool notStr_bool okc_int cells_int notStr_int okc_str cells_str notStr_str okc_nil cells_nil notStr_nil okc_ptr cells_ptr notStr_ptr okc_rptr cells_rptr notStr_rptr okc_slice cells_slice notStr_slice 
  okc_list cells_list notStr_list okc_func cells_func notStr_func okc_nilFunc cells_nilFunc notStr_nilFunc okc_iface cells_iface notStr_iface okc_nilIface cells_nilIface notStr_nilIface okc_agg cells_agg notStr_agg 
  okc_tuple cells_tuple notStr_tuple lenF_slice lenF_list lenF_str faF_ptr faF_rptr idxSF_slice idxSF_list idxAF_ptr idxAF_rptr ixAF_many ixAF_one convF_int unF_neg unF_xor unF_not nilF_0nil nilF_0ptr nilF_0rptr nilF_1 
  nilF_2nil nilF_2f nilF_3nil nilF_3f binF_int binF_beq binF_bne binF_sadd binF_seq binF_sne sliceCells_list sliceCells_str sliceCells_slice cutC_some szAV_list szAV_str szAV_slice oneSl_list oneSl_slice slSF_sliceS 
  slSF_sliceN slSF_list slAF_rptr slAF_ptr appFF_list appOF_list appOF_sliceN appOF_sliceS storeF_ptr copyF_slice extF_tuple s2aF_slice s2aF_list nchkF_ptr nchkF_rptr nchkF_f mmF_int ofStrF_str mkSF_int eqAF_agg
attribute [local irreducible] W WX WR WO WS WSr WH WHA WG WC FSpec
attribute [local simp] lendAll
attribute [local congr] W_cg WR_cg WO_cg WS_cg WSr_cg WH_cg WHA_cg WG_cg WC_cg WX_cg
attribute [local simp] Env.has AV.wkr wkrL AV.wkr_refl wkrL_refl AV.ltI ltL leHW hasW Env.lt AV.ids idsL AV.sub subL AV.ren AV.frz frzS frzP frzE frzL Heap.frz Blk.frz Blk.ren renL rnS rnP hasR leR idsL_bv subL_bv
attribute [local simp] cleanL_take cleanL_drop ltL_take ltL_drop idsL_take idsL_drop subL_take subL_drop cleanL_append ltL_append idsL_append subL_append
attribute [local simp] renE mvN mvH
attribute [local simp] fwd backH putL bwd
attribute [local simp] u8i u8e List.idxOf_cons
attribute [local simp] hasRW leRW
attribute [local simp] WS_at_map WSr_at_map WS_at_arr WSr_at_arr loadWP splice_full Int.natCast_inj arr_zero32 z17 z34 fill_zero arr_set arr_take
theorem fQMul_spec (a b : Nat) (ha : a < 2 ^ 255) (hb : b < 2 ^ 255) : FSpec Try.prog 75 [.agg (q17 a), .agg (q17 b)] [] (.agg (q17 (a * b % p25))) [] := by
  have hva := vs17 ha
  have hvb := vs17 hb
  have hset := fQSettle_spec
  have h19 := mod19
  generalize p25 = p at *
  refine FSpec.of_W fQMul_low (by simp) ?_
  simp only [initEnv]
  simp [q17]
  refine W_loop (X := { x : Nat × (Nat → Nat) // x.1 ≤ 17 ∧ (∀ j, j < 34 → x.2 j ≤ x.1 * 2 ^ 30) ∧ vs x.2 34 = vs (dig a) x.1 * b })
    (fun x => [(2, .ptr 0 0), (3, .ptr 1 0), (4, .ptr 2 0), (5, .ptr 3 0), (6, .int .i64 x.1.1)])
    (fun x => [some ⟨arr .i64 17 (dig a), 55, true⟩, some ⟨arr .i64 17 (dig b), 55, true⟩, some ⟨arr .i64 17 fun _ => 0, 55, true⟩, some ⟨arr .i64 34 x.1.2, 166, true⟩])
    (fun x => 17 - x.1.1) ⟨(0, fun _ => 0), by simp, by simp, by rw [show vs (dig a) 0 = 0 from rfl, Nat.zero_mul]; decide +kernel⟩ retPost_le ?_ ?_
  · exact cut_w (by simp)
  · rintro ⟨⟨i, g⟩, hi, hg, hv⟩
    simp only at hi hg hv ⊢
    simp
    refine WC_dec (fun hl => ?_) (fun hl => ?_)
    · have h1 := dig_lt a i
      obtain ⟨x, hx⟩ : ∃ x, x = dig a i := ⟨_, rfl⟩
      rw [← hx] at h1
      simp
      refine W_loop (X := { y : Nat × (Nat → Nat) // y.1 ≤ 17 ∧ (∀ j, j < 34 → y.2 j ≤ i * 2 ^ 30 + if j < i + y.1 then 2 ^ 30 else 0) ∧ vs y.2 34 = vs (dig a) i * b + x * 32768 ^ i * vs (dig b) y.1 })
        (fun y => [(2, .ptr 0 0), (3, .ptr 1 0), (4, .ptr 2 0), (5, .ptr 3 0), (6, .int .i64 i), (7, .int .i64 y.1.1)])
        (fun y => [some ⟨arr .i64 17 (dig a), 55, true⟩, some ⟨arr .i64 17 (dig b), 55, true⟩, some ⟨arr .i64 17 fun _ => 0, 55, true⟩, some ⟨arr .i64 34 y.1.2, 166, true⟩])
        (fun y => 17 - y.1.1) ⟨(0, g), by simp, fun j hj => Nat.le_trans (hg j hj) (Nat.le_add_right _ _), (by rw [show vs (dig b) 0 = 0 from rfl, Nat.mul_zero, Nat.add_zero]; exact hv : vs g 34 = vs (dig a) i * b + x * 32768 ^ i * vs (dig b) 0)⟩ retPost_le ?_ ?_
      · exact cut_w (by simp)
      · rintro ⟨⟨k, g'⟩, hk, hg', hv'⟩
        simp only at hk hg' hv' ⊢
        simp
        refine WC_dec (fun hl => ?_) (fun hl => ?_)
        · have h2 := dig_lt b k
          obtain ⟨y, hy⟩ : ∃ y, y = dig b k := ⟨_, rfl⟩
          rw [← hy] at h2
          obtain ⟨w, hw⟩ : ∃ w, w = g' (i + k) := ⟨_, rfl⟩
          have hwl := hg' (i + k) (by omega)
          rw [← hw, if_neg (by omega)] at hwl
          have hxy := Nat.mul_le_mul (show x ≤ 32767 by omega) (show y ≤ 32767 by omega)
          obtain ⟨v, hv1⟩ : ∃ v, v = x * y := ⟨_, rfl⟩
          rw [← hv1] at hxy
          have e1 : IntKind.i64.wrap ((x : Int) * y) = (v : Nat) := by rw [hv1, ← Int.natCast_mul]; exact wrap64 (by omega) (by omega)
          have e2 : IntKind.i64.wrap ((i : Int) + k) = (i : Int) + k := wrap64s (by omega) (by omega)
          have e3 : ((i : Int) + k).toNat = i + k := by omega
          obtain ⟨u, hu⟩ : ∃ u, u = w + v := ⟨_, rfl⟩
          have e4 : IntKind.i64.wrap ((w : Int) + v) = (u : Nat) := by rw [hu, ← Int.natCast_add]; exact wrap64 (by omega) (by omega)
          have w1 : IntKind.i64.wrap ((k : Int) + 1) = (k : Int) + 1 := wrap64s (by omega) (by omega)
          simp [← hx, ← hy, e1, e2, e3, ← hw, e4]
          repeat (refine ⟨by omega, ?_⟩)
          refine ⟨⟨(k + 1, upd g' (i + k) u), by simp only; omega, ?_, ?_⟩, by simp only; omega, cut_w (by simp [w1])⟩
          · intro j hj
            simp only at hj ⊢
            unfold upd
            split
            · rw [if_pos (by omega)]; omega
            · have := hg' j hj
              split at this
              · rw [if_pos (by omega)]; exact this
              · rw [if_neg (by omega)]; exact this
          · simp only
            have E := vs_upd_add (g := g') (i := i + k) (v := v) (m := 34) (by omega)
            rw [← hw, ← hu] at E
            rw [E, hv', vs, Nat.mul_add, ← hy, hv1, Nat.pow_add, ← Nat.add_assoc]
            congr 1
            ac_rfl
        · have : k = 17 := by omega
          subst this
          rw [hvb] at hv'
          have w1 : IntKind.i64.wrap ((i : Int) + 1) = (i : Int) + 1 := wrap64s (by omega) (by omega)
          simp
          refine ⟨⟨(i + 1, g'), by simp only; omega, ?_, ?_⟩, by simp only; omega, cut_w (by simp [w1])⟩
          · intro j hj
            have := hg' j hj
            simp only
            split at this <;> omega
          · simp only
            rw [hv', vs, ← hx, Nat.add_mul]
    · have : i = 17 := by omega
      subst this
      rw [hva] at hv
      have hsp := vs_split g 17 17
      rw [hv] at hsp
      have hmod : vs (fun k => g k + 19 * g (17 + k)) 17 % p = a * b % p := by
        rw [vs_add, vs_mul, ← h19, two255, ← hsp]
      have hS := hset (fun k => g k + 19 * g (17 + k)) (fun k hk => by have := hg k (by omega); have := hg (17 + k) (by omega); omega)
      rw [hmod] at hS
      clear hmod hsp hv
      simp
      refine W_loop (X := { k : Nat // k ≤ 17 }) (fun k => [(4, .ptr 2 0), (5, .ptr 3 0), (8, .ptr 4 0), (9, .int .i64 k.1)])
        (fun k => [some ⟨arr .i64 17 (dig a), 55, true⟩, some ⟨arr .i64 17 (dig b), 55, true⟩, some ⟨arr .i64 17 fun _ => 0, 55, true⟩, some ⟨arr .i64 34 g, 166, true⟩, some ⟨arr .i64 17 (fill k.1 (fun k => g k + 19 * g (17 + k))), 55, true⟩])
        (fun k => 17 - k.1) ⟨0, by simp⟩ retPost_le ?_ ?_
      · exact cut_w (by simp)
      · rintro ⟨k, hk⟩
        simp only
        simp
        refine WC_dec (fun hl => ?_) (fun hl => ?_)
        · have g1 := hg k (by omega)
          have g2 := hg (17 + k) (by omega)
          obtain ⟨x, hx⟩ : ∃ x, x = g k := ⟨_, rfl⟩
          obtain ⟨y, hy⟩ : ∃ y, y = g (17 + k) := ⟨_, rfl⟩
          rw [← hx] at g1
          rw [← hy] at g2
          have e2 : IntKind.i64.wrap ((k : Int) + 17) = (k : Int) + 17 := wrap64s (by omega) (by omega)
          have e3 : ((k : Int) + 17).toNat = 17 + k := by omega
          have e4 : IntKind.i64.wrap (19 * (y : Int)) = 19 * (y : Int) := wrap64s (by omega) (by omega)
          obtain ⟨u, hu⟩ : ∃ u, u = x + 19 * y := ⟨_, rfl⟩
          have e5 : IntKind.i64.wrap ((x : Int) + 19 * y) = (u : Nat) := by rw [show (x : Int) + 19 * y = (u : Nat) by omega]; exact wrap64 (by omega) (by omega)
          have e6 : upd (fill k (fun k => g k + 19 * g (17 + k))) k u = fill (k + 1) (fun k => g k + 19 * g (17 + k)) := by
            rw [hu, hx, hy]; exact upd_fill k _
          have w1 : IntKind.i64.wrap ((k : Int) + 1) = (k : Int) + 1 := wrap64s (by omega) (by omega)
          simp [e2, e3, ← hx, ← hy, e4, e5, e6]
          repeat (refine ⟨by omega, ?_⟩)
          exact ⟨⟨k + 1, by omega⟩, by simp only; omega, cut_w (by simp [w1])⟩
        · have : k = 17 := by omega
          subst this
          simp [arr_fill]
          refine WO_callP [] rfl rfl hS (by simp) (by simp) ?_
          simp
          exact fin_W (by simp [q17])
end Go.Proofs.Ythgibibeoapfbaa
