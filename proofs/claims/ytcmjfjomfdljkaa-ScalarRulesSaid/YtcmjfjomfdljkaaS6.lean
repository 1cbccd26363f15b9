/-
  Numbers below the order: bytes; the chapter's example.
-/
import Derived.Test.YtcmjfjomfdljkaaS5
set_option linter.unusedSimpArgs false
set_option linter.unusedVariables false
set_option linter.unusedSectionVars false
namespace Go.Proofs.Ytcmjfjomfdljkaa
open Go Go.Fw
attribute [local simp] bv cleanL_bv toBytes_bv ltL_bv atF_drop WS_at_bytes W_nil W_skip W_seq W_reg W_draw W_drawP W_kill W_keep W_block W_blk W_exit W_ret WX_blk WX_c WX_lp WX_li W_li W_condT W_condF W_cond WC_true WC_false
  WR_nil WR_cons WR_o1 WR_o2 o1_chk o2_chk WR_grd WG_tt WG_ff WG_tf WG_ft WG_none WS_some WS_ok1 WSr_no WSr_some WSr_ok1 WSr_at_bytes WH_some WHA_some chkF_cons chkF_nil chkE_some chkE_ok1 chkE_at evF WO_mv WO_pick WO_bin WO_isNil WO_eqA WO_un WO_convI WO_toStr WO_ofStr WO_build WO_buildF WO_load WO_nilCheck WO_fieldAddr WO_field WO_idxA WO_idxS
  WO_ixA WO_slS WO_slA WO_len WO_lenK WO_appF WO_extract WO_s2a WO_iface WO_min WO_max WO_alloc WO_box WO_buildO WO_store WO_appO WO_copy WO_makeS WO_allocA WO_makeA WO_cvt cvtF_slice WO_look lookF_map alAF mkAF WO_func bind1_v bind2_v bindH_v bindH2_v bindS_v okO_v pickO_t pickO_f
  Env.keep Env.get Env.set Env.del Env.dels Env.setO Env.opd Env.opds Env.opdO Env.parts intF aggF fillA splice cleanL AV.clean bndF fldF_one fldF_many toStrF boxF buildOF
  loadF_rptr loadF_rptrN atF_zero atF_succ blk_cons_zero blk_cons_succ loadF_p loadF_pN atB_some atBN_some retPost resL one
  okc_bool cells_bool notStr_bool okc_int cells_int notStr_int okc_str cells_str notStr_str okc_nil cells_nil notStr_nil okc_ptr cells_ptr notStr_ptr okc_rptr cells_rptr notStr_rptr okc_slice cells_slice notStr_slice 
  okc_list cells_list notStr_list okc_func cells_func notStr_func okc_nilFunc cells_nilFunc notStr_nilFunc okc_iface cells_iface notStr_iface okc_nilIface cells_nilIface notStr_nilIface okc_agg cells_agg notStr_agg 
  okc_tuple cells_tuple notStr_tuple lenF_slice lenF_list lenF_str faF_ptr faF_rptr idxSF_slice idxSF_list idxAF_ptr idxAF_rptr ixAF_many ixAF_one convF_int unF_neg unF_xor unF_not nilF_0nil nilF_0ptr nilF_0rptr nilF_1 
  nilF_2nil nilF_2f nilF_3nil nilF_3f binF_int binF_beq binF_bne binF_sadd binF_seq binF_sne sliceCells_list sliceCells_str sliceCells_slice cutC_some szAV_list szAV_str szAV_slice oneSl_list oneSl_slice slSF_sliceS 
  slSF_sliceN slSF_list slAF_rptr slAF_ptr appFF_list appOF_list appOF_sliceN appOF_sliceS storeF_ptr copyF_slice extF_tuple s2aF_slice s2aF_list nchkF_ptr nchkF_rptr nchkF_f mmF_int ofStrF_str mkSF_int eqAF_agg
attribute [local irreducible] W WX WR WO WS WSr WH WHA WG WC FSpec
attribute [local simp] lendAll
attribute [local congr] W_cg WR_cg WO_cg WS_cg WSr_cg WH_cg WHA_cg WG_cg WC_cg WX_cg
attribute [local simp] Env.has AV.wkr wkrL AV.wkr_refl wkrL_refl AV.ltI ltL leHW hasW Env.lt AV.ids idsL AV.sub subL AV.ren AV.frz frzS frzP frzE frzL Heap.frz Blk.frz Blk.ren renL rnS rnP hasR leR idsL_bv subL_bv
attribute [local simp] cleanL_take cleanL_drop ltL_take ltL_drop idsL_take idsL_drop subL_take subL_drop cleanL_append ltL_append idsL_append subL_append
attribute [local simp] renE mvN mvH
attribute [local simp] fwd backH putL bwd
attribute [local simp] u8i u8e List.idxOf_cons
attribute [local simp] hasRW leRW
attribute [local simp] WS_at_map WSr_at_map WS_at_q4 WSr_at_q4 WS_at_mx mx_set' WS_at_arr WSr_at_arr loadWP splice_full Int.natCast_inj arr_zero32 fill_zero arr_set upd_fill
theorem enc_val (n i q s : Nat) (hq : q = i / 8) (hs : s = 8 * (i % 8)) : IntKind.u8.wrap (((wd n q : Nat) : Int).fdiv (2 ^ min s 64)) = (byt n i : Nat) := by
  have h : i % 8 < 8 := Nat.mod_lt _ (by decide)
  rw [show min s 64 = s by omega, shr_nat, wrapu8, hq, hs, wd_byt]
theorem fEncode_spec (n : Nat) : FSpec Try.prog 16 [.agg (q4 n)] [] (.agg ((byL 32 n).map bv)) [] := by
  refine FSpec.of_W fEncode_low (by simp) ?_
  simp only [initEnv]
  simp
  refine W_loop (X := { i : Nat // i ≤ 32 }) (fun i => [(1, .ptr 0 0), (2, .ptr 1 0), (3, .ptr 2 0), (5, .int .i64 i.1)]) (fun i => [some ⟨q4 n, 28, true⟩, some ⟨arr .u8 32 fun _ => 0, 22, true⟩, some ⟨arr .u8 32 (fill i.1 (byt n)), 22, true⟩]) (fun i => 32 - i.1) ⟨0, by omega⟩ retPost_le ?_ ?_
  · exact cut_w (by simp)
  · rintro ⟨i, hi⟩
    simp only
    simp
    refine WC_dec (fun h => ?_) (fun h => ?_)
    · obtain ⟨q, hq⟩ : ∃ q, q = i / 8 := ⟨_, rfl⟩
      obtain ⟨r, hr⟩ : ∃ r, r = i % 8 := ⟨_, rfl⟩
      obtain ⟨s, hs⟩ : ∃ s, s = 8 * r := ⟨_, rfl⟩
      have e1 : (i : Int).tdiv 8 = (q : Int) := by rw [hq]; rfl
      have e2 : (i : Int).tmod 8 = (r : Int) := by rw [hr]; rfl
      have e3 : IntKind.i64.wrap (8 * (r : Int)) = (s : Int) := by rw [wrap64s (by omega) (by omega)]; omega
      have e4 := enc_val n i q s hq (by omega)
      have e5 : (q : Int) < 4 := by omega
      have e6 : q < 4 := by omega
      simp [h, e1, e2, e3, e4, e5, e6, IntKind.bits, wrap64s (n := (q : Int)) (by omega) (by omega)]
      refine ⟨by omega, ⟨i + 1, by omega⟩, by simp; omega, ?_⟩
      exact cut_w (by simp [wrap64s (n := (i : Int) + 1) (by omega) (by omega)])
    · have : i = 32 := by omega
      subst this
      simp [arr_fill, arr_take]
      exact fin_W (by simp [byL_byt])
theorem fBytesL_spec (n : Nat) : FSpec Try.prog 55 [.agg (q4 n)] [] (.agg ((byL 32 n).map bv)) [] := by
  refine FSpec.of_W fBytesL_low (by simp) ?_
  simp only [initEnv]
  simp
  refine W_loop (X := { i : Nat // i ≤ 32 }) (fun i => [(1, .ptr 0 0), (2, .ptr 1 0), (3, .ptr 2 0), (4, .int .i64 i.1)]) (fun i => [some ⟨q4 n, 26, true⟩, some ⟨arr .u8 32 fun _ => 0, 22, true⟩, some ⟨arr .u8 32 (fill i.1 (byt n)), 22, true⟩]) (fun i => 32 - i.1) ⟨0, by omega⟩ retPost_le ?_ ?_
  · exact cut_w (by simp)
  · rintro ⟨i, hi⟩
    simp only
    simp
    refine WC_dec (fun h => ?_) (fun h => ?_)
    · obtain ⟨q, hq⟩ : ∃ q, q = i / 8 := ⟨_, rfl⟩
      obtain ⟨r, hr⟩ : ∃ r, r = i % 8 := ⟨_, rfl⟩
      obtain ⟨s, hs⟩ : ∃ s, s = 8 * r := ⟨_, rfl⟩
      have e1 : (i : Int).tdiv 8 = (q : Int) := by rw [hq]; rfl
      have e2 : (i : Int).tmod 8 = (r : Int) := by rw [hr]; rfl
      have e3 : IntKind.i64.wrap (8 * (r : Int)) = (s : Int) := by rw [wrap64s (by omega) (by omega)]; omega
      have e4 := enc_val n i q s hq (by omega)
      have e5 : (q : Int) < 4 := by omega
      have e6 : q < 4 := by omega
      simp [h, e1, e2, e3, e4, e5, e6, IntKind.bits, wrap64s (n := (q : Int)) (by omega) (by omega)]
      refine ⟨by omega, ⟨i + 1, by omega⟩, by simp; omega, ?_⟩
      exact cut_w (by simp [wrap64s (n := (i : Int) + 1) (by omega) (by omega)])
    · have : i = 32 := by omega
      subst this
      simp [arr_fill, arr_take]
      exact fin_W (by simp [byL_byt])
/-- The number of thirty-two bytes, if it is below the order. -/
def decQ (n : Nat) : AV := if n < Lq then .tuple [.agg (q4 n), .int .i64 0] else .tuple [.agg (q4 0), .int .i64 7]
theorem or_val (m i q s x : Nat) (hq : q = i / 8) (hs : s = 8 * (i % 8)) (hm : m < 256 ^ i) (hx : x < 256) : bitI .or .u64 (wd m q : Nat) (IntKind.u64.wrap ((x : Int) * 2 ^ min s 64)) = (wd m q + x * 2 ^ s : Nat) := by
  have h : i % 8 < 8 := Nat.mod_lt _ (by decide)
  have h1 := wd_top hm
  rw [← hq, ← hs] at h1
  have h2 : x * 2 ^ s < 2 ^ 64 := by
    refine Nat.lt_of_lt_of_le (Nat.mul_lt_mul_of_pos_right hx (Nat.pow_pos (by decide))) ?_
    rw [show (256 : Nat) = 2 ^ 8 from rfl, ← Nat.pow_add]
    exact Nat.pow_le_pow_right (by decide) (by omega)
  have e : (x : Int) * 2 ^ min s 64 = ((x * 2 ^ s : Nat) : Int) := by rw [show min s 64 = s by omega]; simp
  rw [e, wrapu64, Nat.mod_eq_of_lt h2, bitI_or rfl (wd_lt m q) h2, or_shl _ _ _ h1]
theorem byN_take32 (l : List UInt8) (i : Nat) (h : i < l.length) : byN (l.take i) < 256 ^ i := by
  have := byN_lt (l.take i)
  rwa [List.length_take, Nat.min_eq_left (by omega)] at this
theorem fDecode_spec (l : List UInt8) (hl : l.length = 32) : FSpec Try.prog 12 [.agg (l.map bv)] [] (decQ (byN l)) [] := by
  have hO := fOrder_spec
  have hM2 : Lq < 2 ^ 256 := by decide
  simp only [decQ]
  generalize Lq = M at *
  refine FSpec.of_W fDecode_low (by simp) ?_
  simp only [initEnv]
  simp
  refine ⟨by omega, ?_⟩
  refine W_loop (X := { i : Nat // i ≤ 32 }) (fun i => [(2, .ptr 1 0), (4, .ptr 2 0), (7, .agg (l.map bv)), (8, .int .i64 i.1)]) (fun i => [some ⟨l.map bv, 22, true⟩, some ⟨q4 0, 28, true⟩, some ⟨q4 (byN (l.take i.1)), 28, true⟩]) (fun i => 32 - i.1) ⟨0, by omega⟩ retPost_le ?_ ?_
  · exact cut_w (by simp [hl, List.take_of_length_le, byN, q4_zero])
  · rintro ⟨i, hi⟩
    simp only
    simp
    refine WC_dec (fun h => ?_) (fun h => ?_)
    · have hil : i < l.length := by omega
      have hc : l[i]? = some l[i] := by simp
      obtain ⟨q, hq⟩ : ∃ q, q = i / 8 := ⟨_, rfl⟩
      obtain ⟨r, hr⟩ : ∃ r, r = i % 8 := ⟨_, rfl⟩
      obtain ⟨s, hs⟩ : ∃ s, s = 8 * r := ⟨_, rfl⟩
      have e1 : (i : Int).tdiv 8 = (q : Int) := by rw [hq]; rfl
      have e2 : (i : Int).tmod 8 = (r : Int) := by rw [hr]; rfl
      have e3 : IntKind.i64.wrap (8 * (r : Int)) = (s : Int) := by rw [wrap64s (by omega) (by omega)]; omega
      have hx := UInt8.toNat_lt l[i]
      have e4 := or_val (byN (l.take i)) i q s l[i].toNat hq (by omega) (byN_take32 l i hil) hx
      have e5 : (q : Int) < 4 := by omega
      have e6 : q < 4 := by omega
      have e7 := q4_put (byN (l.take i)) i l[i].toNat (byN_take32 l i hil) hx
      rw [← byN_take l i hil, ← hq, ← hr, ← hs] at e7
      have e8 : IntKind.u64.wrap ((l[i].toNat : Nat) : Int) = (l[i].toNat : Nat) := by rw [wrapu64]; congr 1; omega
      obtain ⟨v, hv⟩ : ∃ v, v = wd (byN (l.take i)) q + l[i].toNat * 2 ^ s := ⟨_, rfl⟩
      rw [← hv] at e4 e7
      simp [h, hc, e1, e2, e3, e4, e5, e6, e8, IntKind.bits, wrap64s (n := (q : Int)) (by omega) (by omega)]
      refine ⟨by omega, ⟨i + 1, by omega⟩, by simp; omega, ?_⟩
      exact cut_w (by simp [e7, wrap64s (n := (i : Int) + 1) (by omega) (by omega)])
    · have : i = 32 := by omega
      subst this
      have hlt : byN l < 2 ^ 256 := by have := byN_lt l; rw [hl] at this; exact this
      simp [List.take_of_length_le (show l.length ≤ 32 by omega)]
      refine WO_callP [] rfl rfl hO (by simp) (by simp) ?_
      simp
      refine WO_callP [] rfl rfl (fLess_spec (byN l) M hlt hM2) (by simp) (by simp) ?_
      simp
      refine WC_ndec (fun h => ?_) (fun h => ?_)
      · simp
        exact fin_W (by simp [h, q4_zero])
      · simp
        exact fin_W (by simp [h])
theorem fNum6_spec (n : Nat) (hn : n < 2 ^ 256) : FSpec Try.prog 17 [.agg (q4 n)] [] (.agg (q4 (n % Lq))) [] := by
  refine FSpec.of_W fNum6_low (by simp) ?_
  simp only [initEnv]
  simp
  refine WO_callP [] rfl rfl (fBytesL_spec n) (by simp) (by simp) ?_
  simp [byL_len]
  refine WO_callP [2] (as' := [.list 1 ⟨false, true, true⟩ ((byL 32 n).map bv)]) rfl (by simp [byL_len, List.take_of_length_le]) (fRReduce_spec (byL 32 n) ⟨false, true, true⟩ (by simp [byL_len])) (by simp) (by simp) ?_
  rw [byN_byL, Nat.mod_eq_of_lt (show n < 256 ^ 32 from hn)]
  simp
  exact fin_W (by simp)
theorem z4 : ([.int .u64 0, .int .u64 0, .int .u64 0, .int .u64 0] : List AV) = q4 0 := by kernel_rfl
theorem z4_5 : (q4 0).set 0 (.int .u64 5) = q4 5 := by kernel_rfl
theorem z4_1 : (q4 0).set 0 (.int .u64 1) = q4 1 := by kernel_rfl
theorem z4_256 : (q4 0).set 0 (.int .u64 256) = q4 256 := by kernel_rfl
theorem fLives6_spec : FSpec Try.prog 11 [] [] (.bool true) [] := by
  have hO := fOrder_spec
  have hL := fL_spec
  have hR := fReduce_spec
  have h5 : 5 % Lq = 5 := by decide +kernel
  have hM := Nat.mod_self Lq
  have hk : Lq < 2 ^ 256 := by decide
  generalize Lq = M at *
  refine FSpec.of_W fLives6_low (by simp) ?_
  simp only [initEnv]
  simp
  refine WO_callP [] rfl rfl hO (by simp) (by simp) ?_
  simp
  refine WO_callP [] rfl rfl (fEncode_spec M) (by simp) (by simp) ?_
  simp [byL_len]
  have h1 := hR (byL 32 M) ⟨false, true, true⟩ (by simp [byL_len])
  rw [byN_byL, Nat.mod_eq_of_lt (show M < 256 ^ 32 from hk), hM] at h1
  refine WO_callP [0] (as' := [.list 1 ⟨false, true, true⟩ ((byL 32 M).map bv)]) rfl (by simp [byL_len, List.take_of_length_le]) h1 (by simp) (by simp) ?_
  simp [z4]
  have h2 := hR [5] ⟨false, true, false⟩ (by simp)
  rw [show byN [5] = 5 from rfl, h5] at h2
  refine WO_callP [] rfl rfl h2 (by simp) (by simp) ?_
  simp [z4, z4_5]
  refine WO_callP [] rfl rfl hO (by simp) (by simp) ?_
  simp
  refine WO_callP [] rfl rfl hL (by simp) (by simp) ?_
  simp
  exact fin_W (by simp)
end Go.Proofs.Ytcmjfjomfdljkaa
