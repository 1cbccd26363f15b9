/-
  Field.
-/
import Derived.Test.YthgibibeoapfbaaeQ3
set_option linter.unusedSimpArgs false
set_option linter.unnecessarySimpa false
set_option linter.unusedVariables false
set_option linter.unusedSectionVars false
namespace Go.Proofs.Ythgibibeoapfbaa
open Go Go.Fw
attribute [local simp] bv cleanL_bv toBytes_bv ltL_bv atF_drop WS_at_bytes W_nil W_skip W_seq W_reg W_draw W_drawP W_kill W_keep W_block W_blk W_exit W_ret WX_blk WX_c WX_lp WX_li W_li W_condT W_condF W_cond WC_true WC_false
  WR_nil WR_cons WR_o1 WR_o2 o1_chk o2_chk WR_grd WG_tt WG_ff WG_tf WG_ft WG_none WS_some WS_ok1 WSr_no WSr_some WSr_ok1 WSr_at_bytes WH_some WHA_some chkF_cons chkF_nil chkE_some chkE_ok1 chkE_at evF WO_mv WO_pick WO_bin WO_isNil WO_eqA WO_un WO_convI WO_toStr WO_ofStr WO_build WO_buildF WO_load WO_nilCheck WO_fieldAddr WO_field WO_idxA WO_idxS
  WO_ixA WO_slS WO_slA WO_len WO_lenK WO_appF WO_extract WO_s2a WO_iface WO_min WO_max WO_alloc WO_box WO_buildO WO_store WO_appO WO_copy WO_makeS WO_allocA WO_makeA WO_cvt cvtF_slice WO_look lookF_map alAF mkAF WO_func bind1_v bind2_v bindH_v bindH2_v bindS_v okO_v pickO_t pickO_f
  Env.keep Env.get Env.set Env.del Env.dels Env.setO Env.opd Env.opds Env.opdO Env.parts intF aggF fillA splice cleanL AV.clean bndF fldF_one fldF_many toStrF boxF buildOF
  loadF_rptr loadF_rptrN atF_zero atF_succ blk_cons_zero blk_cons_succ loadF_p loadF_pN atB_some atBN_some retPost resL one
  okc_bool cells_bool notStr_bool okc_int cells_int notStr_int okc_str cells_str notStr_str okc_nil cells_nil notStr_nil okc_ptr cells_ptr notStr_ptr okc_rptr cells_rptr notStr_rptr okc_slice cells_slice notStr_slice 
  okc_list cells_list notStr_list okc_func cells_func notStr_func okc_nilFunc cells_nilFunc notStr_nilFunc okc_iface cells_iface notStr_iface okc_nilIface cells_nilIface notStr_nilIface okc_agg cells_agg notStr_agg 
  okc_tuple cells_tuple notStr_tuple lenF_slice lenF_list lenF_str faF_ptr faF_rptr idxSF_slice idxSF_list idxAF_ptr idxAF_rptr ixAF_many ixAF_one convF_int unF_neg unF_xor unF_not nilF_0nil nilF_0ptr nilF_0rptr nilF_1 
  nilF_2nil nilF_2f nilF_3nil nilF_3f binF_int binF_beq binF_bne binF_sadd binF_seq binF_sne sliceCells_list sliceCells_str sliceCells_slice cutC_some szAV_list szAV_str szAV_slice oneSl_list oneSl_slice slSF_sliceS 
  slSF_sliceN slSF_list slAF_rptr slAF_ptr appFF_list appOF_list appOF_sliceN appOF_sliceS storeF_ptr copyF_slice extF_tuple s2aF_slice s2aF_list nchkF_ptr nchkF_rptr nchkF_f mmF_int ofStrF_str mkSF_int eqAF_agg
attribute [local irreducible] W WX WR WO WS WSr WH WHA WG WC FSpec
attribute [local simp] lendAll
attribute [local congr] W_cg WR_cg WO_cg WS_cg WSr_cg WH_cg WHA_cg WG_cg WC_cg WX_cg
attribute [local simp] Env.has AV.wkr wkrL AV.wkr_refl wkrL_refl AV.ltI ltL leHW hasW Env.lt AV.ids idsL AV.sub subL AV.ren AV.frz frzS frzP frzE frzL Heap.frz Blk.frz Blk.ren renL rnS rnP hasR leR idsL_bv subL_bv
attribute [local simp] cleanL_take cleanL_drop ltL_take ltL_drop idsL_take idsL_drop subL_take subL_drop cleanL_append ltL_append idsL_append subL_append
attribute [local simp] renE mvN mvH
attribute [local simp] fwd backH putL bwd
attribute [local simp] u8i u8e List.idxOf_cons
attribute [local simp] hasRW leRW
attribute [local simp] WS_at_map WSr_at_map WS_at_q4 WSr_at_q4 WS_at_mx mx_set' WS_at_arr WSr_at_arr loadWP splice_full Int.natCast_inj arr_zero32 fill_zero arr_set upd_fill
theorem enc_val (n i q s : Nat) (hq : q = i / 8) (hs : s = 8 * (i % 8)) : IntKind.u8.wrap (((wd n q : Nat) : Int).fdiv (2 ^ min s 64)) = (byt n i : Nat) := by
  have h : i % 8 < 8 := Nat.mod_lt _ (by decide)
  rw [show min s 64 = s by omega, shr_nat, wrapu8, hq, hs, wd_byt]
theorem fFdEncode_spec (n : Nat) : FSpec Try.prog 82 [.agg (q4 n)] [] (.agg ((byL 32 n).map bv)) [] := by
  refine FSpec.of_W fFdEncode_low (by simp) ?_
  simp only [initEnv]
  simp
  refine W_loop (X := { i : Nat // i ≤ 32 }) (fun i => [(1, .ptr 0 0), (2, .ptr 1 0), (3, .ptr 2 0), (5, .int .i64 i.1)]) (fun i => [some ⟨q4 n, 49, true⟩, some ⟨arr .u8 32 fun _ => 0, 23, true⟩, some ⟨arr .u8 32 (fill i.1 (byt n)), 23, true⟩]) (fun i => 32 - i.1) ⟨0, by omega⟩ retPost_le ?_ ?_
  · exact cut_w (by simp)
  · rintro ⟨i, hi⟩
    simp only
    simp
    refine WC_dec (fun h => ?_) (fun h => ?_)
    · obtain ⟨q, hq⟩ : ∃ q, q = i / 8 := ⟨_, rfl⟩
      obtain ⟨r, hr⟩ : ∃ r, r = i % 8 := ⟨_, rfl⟩
      obtain ⟨s, hs⟩ : ∃ s, s = 8 * r := ⟨_, rfl⟩
      have e1 : (i : Int).tdiv 8 = (q : Int) := by rw [hq]; rfl
      have e2 : (i : Int).tmod 8 = (r : Int) := by rw [hr]; rfl
      have e3 : IntKind.i64.wrap (8 * (r : Int)) = (s : Int) := by rw [wrap64s (by omega) (by omega)]; omega
      have e4 := enc_val n i q s hq (by omega)
      have e5 : (q : Int) < 4 := by omega
      have e6 : q < 4 := by omega
      simp [h, e1, e2, e3, e4, e5, e6, IntKind.bits, wrap64s (n := (q : Int)) (by omega) (by omega)]
      refine ⟨by omega, ⟨i + 1, by omega⟩, by simp; omega, ?_⟩
      exact cut_w (by simp [wrap64s (n := (i : Int) + 1) (by omega) (by omega)])
    · have : i = 32 := by omega
      subst this
      simp [arr_fill, arr_take]
      exact fin_W (by simp [byL_byt])
/-- The number of thirty-two bytes, if it is below the modulus. -/
def decP (n : Nat) : AV := if n < p25 then .tuple [.agg (q4 n), .int .i64 0] else .tuple [.agg (q4 0), .int .i64 7]
theorem or_val (m i q s x : Nat) (hq : q = i / 8) (hs : s = 8 * (i % 8)) (hm : m < 256 ^ i) (hx : x < 256) : bitI .or .u64 (wd m q : Nat) (IntKind.u64.wrap ((x : Int) * 2 ^ min s 64)) = (wd m q + x * 2 ^ s : Nat) := by
  have h : i % 8 < 8 := Nat.mod_lt _ (by decide)
  have h1 := wd_top hm
  rw [← hq, ← hs] at h1
  have h2 : x * 2 ^ s < 2 ^ 64 := by
    refine Nat.lt_of_lt_of_le (Nat.mul_lt_mul_of_pos_right hx (Nat.pow_pos (by decide))) ?_
    rw [show (256 : Nat) = 2 ^ 8 from rfl, ← Nat.pow_add]
    exact Nat.pow_le_pow_right (by decide) (by omega)
  have e : (x : Int) * 2 ^ min s 64 = ((x * 2 ^ s : Nat) : Int) := by rw [show min s 64 = s by omega]; simp
  rw [e, wrapu64, Nat.mod_eq_of_lt h2, bitI_or rfl (wd_lt m q) h2, or_shl _ _ _ h1]
theorem byN_take32 (l : List UInt8) (i : Nat) (h : i < l.length) : byN (l.take i) < 256 ^ i := by
  have := byN_lt (l.take i)
  rwa [List.length_take, Nat.min_eq_left (by omega)] at this
theorem fFdDecode_spec (l : List UInt8) (hl : l.length = 32) : FSpec Try.prog 61 [.agg (l.map bv)] [] (decP (byN l)) [] := by
  have hO := fFdModulus_spec
  have hM2 : p25 < 2 ^ 256 := by decide
  simp only [decP]
  generalize p25 = M at *
  refine FSpec.of_W fFdDecode_low (by simp) ?_
  simp only [initEnv]
  simp
  refine ⟨by omega, ?_⟩
  refine W_loop (X := { i : Nat // i ≤ 32 }) (fun i => [(2, .ptr 1 0), (4, .ptr 2 0), (7, .agg (l.map bv)), (8, .int .i64 i.1)]) (fun i => [some ⟨l.map bv, 23, true⟩, some ⟨q4 0, 49, true⟩, some ⟨q4 (byN (l.take i.1)), 49, true⟩]) (fun i => 32 - i.1) ⟨0, by omega⟩ retPost_le ?_ ?_
  · exact cut_w (by simp [hl, List.take_of_length_le, byN, q4_zero])
  · rintro ⟨i, hi⟩
    simp only
    simp
    refine WC_dec (fun h => ?_) (fun h => ?_)
    · have hil : i < l.length := by omega
      have hc : l[i]? = some l[i] := by simp
      obtain ⟨q, hq⟩ : ∃ q, q = i / 8 := ⟨_, rfl⟩
      obtain ⟨r, hr⟩ : ∃ r, r = i % 8 := ⟨_, rfl⟩
      obtain ⟨s, hs⟩ : ∃ s, s = 8 * r := ⟨_, rfl⟩
      have e1 : (i : Int).tdiv 8 = (q : Int) := by rw [hq]; rfl
      have e2 : (i : Int).tmod 8 = (r : Int) := by rw [hr]; rfl
      have e3 : IntKind.i64.wrap (8 * (r : Int)) = (s : Int) := by rw [wrap64s (by omega) (by omega)]; omega
      have hx := UInt8.toNat_lt l[i]
      have e4 := or_val (byN (l.take i)) i q s l[i].toNat hq (by omega) (byN_take32 l i hil) hx
      have e5 : (q : Int) < 4 := by omega
      have e6 : q < 4 := by omega
      have e7 := q4_put (byN (l.take i)) i l[i].toNat (byN_take32 l i hil) hx
      rw [← byN_take l i hil, ← hq, ← hr, ← hs] at e7
      have e8 : IntKind.u64.wrap ((l[i].toNat : Nat) : Int) = (l[i].toNat : Nat) := by rw [wrapu64]; congr 1; omega
      obtain ⟨v, hv⟩ : ∃ v, v = wd (byN (l.take i)) q + l[i].toNat * 2 ^ s := ⟨_, rfl⟩
      rw [← hv] at e4 e7
      simp [h, hc, e1, e2, e3, e4, e5, e6, e8, IntKind.bits, wrap64s (n := (q : Int)) (by omega) (by omega)]
      refine ⟨by omega, ⟨i + 1, by omega⟩, by simp; omega, ?_⟩
      exact cut_w (by simp [e7, wrap64s (n := (i : Int) + 1) (by omega) (by omega)])
    · have : i = 32 := by omega
      subst this
      have hlt : byN l < 2 ^ 256 := by have := byN_lt l; rw [hl] at this; exact this
      simp [List.take_of_length_le (show l.length ≤ 32 by omega)]
      refine WO_callP [] rfl rfl hO (by simp) (by simp) ?_
      simp
      refine WO_callP [] rfl rfl (fFdLess_spec (byN l) M hlt hM2) (by simp) (by simp) ?_
      simp
      refine WC_ndec (fun h => ?_) (fun h => ?_)
      · simp
        exact fin_W (by simp [h, q4_zero])
      · simp
        exact fin_W (by simp [h])
/-- Which of two numbers is a root. -/
def rootR' (p a r ri : Nat) : Nat := if r * r % p = a then r else r * ri % p
def rootF' (p a r ri : Nat) : Nat × Bool := if rootR' p a r ri * rootR' p a r ri % p = a then (if rootR' p a r ri % 2 = 1 then (if rootR' p a r ri = 0 then 0 else p - rootR' p a r ri) else rootR' p a r ri, true) else (0, false)
theorem fFdRoot_abs (p a e r ri : Nat) (ha : a < p) (hr : r < p) (hri : ri < p) (hp : p < 2 ^ 255)
    (hP : FSpec Try.prog 115 [.agg (q4 a), .agg [.int .u64 18446744073709551614, .int .u64 18446744073709551615, .int .u64 18446744073709551615, .int .u64 1152921504606846975]] [] (.agg (q4 r)) [])
    (hI : q4 ri = [.int .u64 14190309331451158704, .int .u64 3405592160176694392, .int .u64 3120150775007532967, .int .u64 3135389899092516619])
    (hT : ∀ a b, a < 2 ^ 256 → b < 2 ^ 256 → FSpec Try.prog 113 [.agg (q4 a), .agg (q4 b)] [] (.agg (q4 (a * b % p))) [])
    (hN : ∀ a, a < p → FSpec Try.prog 69 [.agg (q4 a)] [] (.agg (q4 (if a = 0 then 0 else p - a))) []) :
    FSpec Try.prog 68 [.agg (q4 a)] [] (.tuple [.agg (q4 (rootF' p a r ri).1), .bool (rootF' p a r ri).2]) [] := by
  have hO := fFdOdd_spec
  have hpos : 0 < p := by omega
  have hm : ∀ x, x % p < 2 ^ 255 := fun x => Nat.lt_trans (Nat.mod_lt x hpos) hp
  have hR1 : rootR' p a r ri < p := by unfold rootR'; split; exact hr; exact Nat.mod_lt _ hpos
  obtain ⟨r1, hr1⟩ : ∃ r1, r1 = rootR' p a r ri := ⟨_, rfl⟩
  obtain ⟨R, hR⟩ : ∃ R, R = rootF' p a r ri := ⟨_, rfl⟩
  rw [← hR]
  simp only [rootF', ← hr1] at hR
  rw [← hr1] at hR1
  have i4 : ∀ {x y : Nat}, x < 2 ^ 255 → y < 2 ^ 255 → (ints (q4 x) = ints (q4 y)) = (x = y) := fun hx hy => ints_q4 (by omega) (by omega)
  refine FSpec.of_W (c := (.seq (.reg fFdRoot_r0) (.seq (.reg fFdRoot_r1) (.seq (.seq (.draw fFdRoot_r2) (.cond (.t 12) fFdRoot_k0 (.kill [12] .skip))) (.keep [1, 2, 4] (.cut (.seq (.seq (.draw fFdRoot_r4) (.cond (.t 20) fFdRoot_k1 (.kill [20] .skip))) (.keep [2, 4] (.seq (.seq (.reg fFdRoot_r6) (.cond (.t 23) fFdRoot_k2 (.kill [23] .skip))) (.keep [2, 4] (.seq (.reg fFdRoot_r8) .ret))))))))))) fFdRoot_low (by simp) ?_
  simp only [initEnv]
  have hrest : W Try.prog 0 [It.c (.seq (.seq (.draw fFdRoot_r4) (.cond (.t 20) fFdRoot_k1 (.kill [20] .skip))) (.keep [2, 4] (.seq (.seq (.reg fFdRoot_r6) (.cond (.t 23) fFdRoot_k2 (.kill [23] .skip))) (.keep [2, 4] (.seq (.reg fFdRoot_r8) .ret)))))]
      [(1, .ptr 0 0), (2, .ptr 1 0), (4, .ptr 2 0)] [some ⟨q4 a, 49, true⟩, some ⟨q4 0, 49, true⟩, some ⟨q4 r1, 49, true⟩] (retPost fFdRoot_rs (fin 0 (.tuple [.agg (q4 R.1), .bool R.2]) [])) := by
    simp
    refine WO_callP [] rfl rfl (hT r1 r1 (by omega) (by omega)) (by simp) (by simp) ?_
    simp
    refine WC_ndec (fun h => ?_) (fun h => ?_)
    · rw [i4 (hm _) (by omega)] at h
      rw [hR, if_neg h]
      simp
      exact fin_W (by simp [q4_zero])
    · rw [i4 (hm _) (by omega)] at h
      rw [if_pos h] at hR
      simp
      refine WO_callP [] rfl rfl (hO r1) (by simp) (by simp) ?_
      simp
      refine WC_dec (fun h2 => ?_) (fun h2 => ?_)
      · rw [if_pos h2] at hR
        rw [hR]
        simp
        refine WO_callP [] rfl rfl (hN r1 hR1) (by simp) (by simp) ?_
        simp
        exact fin_W (by simp)
      · rw [if_neg h2] at hR
        rw [hR]
        simp
        exact fin_W (by simp)
  simp
  refine WO_callP [] rfl rfl hP (by simp) (by simp) ?_
  simp
  refine WO_callP [] rfl rfl (hT r r (by omega) (by omega)) (by simp) (by simp) ?_
  simp
  refine WC_ndec (fun h => ?_) (fun h => ?_)
  · rw [i4 (hm _) (by omega)] at h
    rw [rootR', if_neg h] at hr1
    have hTi := hT r ri (by omega) (by omega)
    rw [← hr1, hI] at hTi
    simp
    refine WO_callP [] rfl rfl hTi (by simp) (by simp) ?_
    simp
    exact W_cut (cut_w (by simp [q4_zero])) hrest
  · rw [i4 (hm _) (by omega)] at h
    rw [rootR', if_pos h] at hr1
    simp
    exact W_cut (cut_w (by simp [q4_zero, hr1])) hrest
theorem rootF_eq (a : Nat) : rootF' p25 a (a ^ ((p25 + 3) / 8) % p25) rootI = rootF a := by
  have h : a ^ ((p25 + 3) / 8) % p25 = pwm p25 a 256 ((p25 + 3) / 8) := (pwm_eq _ _ _ _ (by decide +kernel)).symm
  rw [h]
  rfl
theorem fFdRoot_spec (a : Nat) (ha : a < p25) : FSpec Try.prog 68 [.agg (q4 a)] [] (.tuple [.agg (q4 (rootF a).1), .bool (rootF a).2]) [] := by
  have hP := fFdPower_spec a ((p25 + 3) / 8) ha (by decide +kernel)
  have hE : q4 ((p25 + 3) / 8) = [.int .u64 18446744073709551614, .int .u64 18446744073709551615, .int .u64 18446744073709551615, .int .u64 1152921504606846975] := by kernel_rfl
  rw [hE] at hP
  have := fFdRoot_abs p25 a 0 _ rootI ha (Nat.mod_lt _ p25_pos) (by decide +kernel) p25_lt hP (by kernel_rfl) fFdTimes_spec fFdNeg_spec
  rwa [rootF_eq] at this
end Go.Proofs.Ythgibibeoapfbaa
