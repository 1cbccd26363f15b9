/-
  Numbers below the order: the document's sums.
-/
import Derived.Test.YtcmjfjomfdljkaaS2
set_option linter.unusedSimpArgs false
set_option linter.unusedVariables false
set_option linter.unusedSectionVars false
namespace Go.Proofs.Ytcmjfjomfdljkaa
open Go Go.Fw
attribute [local simp] bv cleanL_bv toBytes_bv ltL_bv atF_drop WS_at_bytes W_nil W_skip W_seq W_reg W_draw W_drawP W_kill W_keep W_block W_blk W_exit W_ret WX_blk WX_c WX_lp WX_li W_li W_condT W_condF W_cond WC_true WC_false
  WR_nil WR_cons WR_o1 WR_o2 o1_chk o2_chk WR_grd WG_tt WG_ff WG_tf WG_ft WG_none WS_some WS_ok1 WSr_no WSr_some WSr_ok1 WSr_at_bytes WH_some WHA_some chkF_cons chkF_nil chkE_some chkE_ok1 chkE_at evF WO_mv WO_pick WO_bin WO_isNil WO_eqA WO_un WO_convI WO_toStr WO_ofStr WO_build WO_buildF WO_load WO_nilCheck WO_fieldAddr WO_field WO_idxA WO_idxS
  WO_ixA WO_slS WO_slA WO_len WO_lenK WO_appF WO_extract WO_s2a WO_iface WO_min WO_max WO_alloc WO_box WO_buildO WO_store WO_appO WO_copy WO_makeS WO_allocA WO_makeA WO_cvt cvtF_slice WO_look lookF_map alAF mkAF WO_func bind1_v bind2_v bindH_v bindH2_v bindS_v okO_v pickO_t pickO_f
  Env.keep Env.get Env.set Env.del Env.dels Env.setO Env.opd Env.opds Env.opdO Env.parts intF aggF fillA splice cleanL AV.clean bndF fldF_one fldF_many toStrF boxF buildOF
  loadF_rptr loadF_rptrN atF_zero atF_succ blk_cons_zero blk_cons_succ loadF_p loadF_pN atB_some atBN_some retPost resL one
  okc_bool cells_bool notStr_bool okc_int cells_int notStr_int okc_str cells_str notStr_str okc_nil cells_nil notStr_nil okc_ptr cells_ptr notStr_ptr okc_rptr cells_rptr notStr_rptr okc_slice cells_slice notStr_slice 
  okc_list cells_list notStr_list okc_func cells_func notStr_func okc_nilFunc cells_nilFunc notStr_nilFunc okc_iface cells_iface notStr_iface okc_nilIface cells_nilIface notStr_nilIface okc_agg cells_agg notStr_agg 
  okc_tuple cells_tuple notStr_tuple lenF_slice lenF_list lenF_str faF_ptr faF_rptr idxSF_slice idxSF_list idxAF_ptr idxAF_rptr ixAF_many ixAF_one convF_int unF_neg unF_xor unF_not nilF_0nil nilF_0ptr nilF_0rptr nilF_1 
  nilF_2nil nilF_2f nilF_3nil nilF_3f binF_int binF_beq binF_bne binF_sadd binF_seq binF_sne sliceCells_list sliceCells_str sliceCells_slice cutC_some szAV_list szAV_str szAV_slice oneSl_list oneSl_slice slSF_sliceS 
  slSF_sliceN slSF_list slAF_rptr slAF_ptr appFF_list appOF_list appOF_sliceN appOF_sliceS storeF_ptr copyF_slice extF_tuple s2aF_slice s2aF_list nchkF_ptr nchkF_rptr nchkF_f mmF_int ofStrF_str mkSF_int eqAF_agg
attribute [local irreducible] W WX WR WO WS WSr WH WHA WG WC FSpec
attribute [local simp] lendAll
attribute [local congr] W_cg WR_cg WO_cg WS_cg WSr_cg WH_cg WHA_cg WG_cg WC_cg WX_cg
attribute [local simp] Env.has AV.wkr wkrL AV.wkr_refl wkrL_refl AV.ltI ltL leHW hasW Env.lt AV.ids idsL AV.sub subL AV.ren AV.frz frzS frzP frzE frzL Heap.frz Blk.frz Blk.ren renL rnS rnP hasR leR idsL_bv subL_bv
attribute [local simp] cleanL_take cleanL_drop ltL_take ltL_drop idsL_take idsL_drop subL_take subL_drop cleanL_append ltL_append idsL_append subL_append
attribute [local simp] renE mvN mvH
attribute [local simp] fwd backH putL bwd
attribute [local simp] u8i u8e List.idxOf_cons
attribute [local simp] hasRW leRW
attribute [local simp] WS_at_q4 WSr_at_q4 WS_at_mx mx_set' loadWP splice_full Int.natCast_inj
theorem dbl_wrap (n bit i : Nat) : IntKind.u64.wrap (IntKind.u64.wrap ((wd n i : Int) * 2) + (dca n bit i : Int)) = (wd (2 * n + bit) i : Nat) := by
  rw [wd_dbl]
  unfold IntKind.wrap
  simp [IntKind.signed, IntKind.bits]
theorem fDouble_spec (n : Nat) (bit : Nat) (hb : bit ≤ 1) (hn : 2 * n + bit < 2 ^ 256) : FSpec Try.prog 53 [.agg (q4 n), .int .i64 bit] [] (.agg (q4 (onceN (2 * n + bit)))) [] := by
  refine FSpec.of_W fDouble_low (by simp) ?_
  simp only [initEnv]
  simp
  refine W_loop (X := { i : Nat // i ≤ 4 }) (fun i => [(2, .ptr 0 0), (4, .ptr 1 0), (5, .int .u64 (dca n bit i.1 : Nat)), (6, .int .i64 i.1)]) (fun i => [some ⟨mx i.1 (2 * n + bit) n, 26, true⟩, some ⟨q4 0, 26, true⟩]) (fun i => 4 - i.1) ⟨0, by omega⟩ retPost_le ?_ ?_
  · have e : IntKind.u64.wrap (bit : Int) = bit := by rw [wrapu64]; omega
    exact cut_w (by simp [dca_zero, mx_zero, q4_zero, e])
  · rintro ⟨i, hi⟩
    simp only
    simp
    refine WC_dec (fun hl => ?_) (fun hl => ?_)
    · have h4 : i < 4 := by omega
      have e1 : (wd n i : Int).fdiv 9223372036854775808 = (dca n bit (i + 1) : Nat) := by
        rw [← dca_succ n bit i hb]; exact shr_nat (wd n i) 63
      simp [h4, hl, dbl_wrap, e1]
      refine ⟨by omega, ⟨i + 1, by omega⟩, by simp; omega, ?_⟩
      exact cut_w (by simp [IntKind.bits, e1, wrap64s (n := (i : Int) + 1) (by omega) (by omega)])
    · have h4 : i = 4 := by omega
      subst h4
      simp [mx_four]
      refine WO_callP [] rfl rfl fL_spec (by simp) (by simp) ?_
      simp
      refine WO_callP [] rfl rfl (fBelow2_spec _ Lq hn (by decide)) (by simp) (by simp) ?_
      simp
      refine WC_dec (fun h => ?_) (fun h => ?_)
      · simp
        exact fin_W (by simp [onceN, h])
      · simp
        refine WO_callP [] rfl rfl fL_spec (by simp) (by simp) ?_
        simp
        refine WO_callP [] rfl rfl (fRLess_spec _ Lq (by omega)) (by simp) (by simp) ?_
        simp
        exact fin_W (by simp [onceN, h])
theorem add_wrap1 (a b i : Nat) : IntKind.u64.wrap ((wd a i : Int) + (wd b i : Int)) = ((wd a i + wd b i) % 18446744073709551616 : Nat) := by
  unfold IntKind.wrap
  simp [IntKind.signed, IntKind.bits]
theorem fAddL_spec (a b : Nat) (hs : a + b < 2 ^ 256) : FSpec Try.prog 19 [.agg (q4 a), .agg (q4 b)] [] (.agg (q4 (onceN (a + b)))) [] := by
  refine FSpec.of_W fAddL_low (by simp) ?_
  simp only [initEnv]
  simp
  refine W_loop (X := { i : Nat // i ≤ 4 }) (fun i => [(2, .ptr 0 0), (3, .ptr 1 0), (4, .ptr 2 0), (5, .int .u64 (car a b i.1 : Nat)), (6, .int .i64 i.1)]) (fun i => [some ⟨mx i.1 (a + b) a, 26, true⟩, some ⟨q4 b, 26, true⟩, some ⟨q4 0, 26, true⟩]) (fun i => 4 - i.1) ⟨0, by omega⟩ retPost_le ?_ ?_
  · exact cut_w (by simp [car_zero, mx_zero, q4_zero])
  · rintro ⟨i, hi⟩
    simp only
    simp
    refine WC_dec (fun hl => ?_) (fun hl => ?_)
    · have h4 : i < 4 := by omega
      have hc := car_succ a b i
      have hle := car_le a b i
      have hw := wd_add a b i
      have l1 := wd_lt a i
      have l2 := wd_lt b i
      obtain ⟨x, hx⟩ : ∃ x, x = (wd a i + wd b i) % 18446744073709551616 := ⟨_, rfl⟩
      have e1 := add_wrap1 a b i
      rw [← hx] at e1
      have e2 : IntKind.u64.wrap ((x : Int) + (car a b i : Int)) = (wd (a + b) i : Nat) := by
        rw [hw]
        unfold IntKind.wrap
        simp [IntKind.signed, IntKind.bits]
        omega
      have c1 : x < wd a i ↔ 18446744073709551616 ≤ wd a i + wd b i := by omega
      have c2 : wd (a + b) i < x ↔ 18446744073709551616 ≤ x + car a b i := by omega
      simp [h4, hl, e1]
      refine WC_dec (fun g1 => ?_) (fun g1 => ?_)
      · simp [h4, hl, e2]
        have : ¬ wd (a + b) i < x := by omega
        simp [this, h4, hl]
        have hn : car a b (i + 1) = 1 := by omega
        refine ⟨by omega, ⟨i + 1, by omega⟩, by simp; omega, ?_⟩
        exact cut_w (by simp [hn, wrap64s (n := (i : Int) + 1) (by omega) (by omega)])
      · simp [h4, hl, e2]
        refine WC_dec (fun g2 => ?_) (fun g2 => ?_)
        · have hn : car a b (i + 1) = 1 := by omega
          simp [h4, hl]
          refine ⟨by omega, ⟨i + 1, by omega⟩, by simp; omega, ?_⟩
          exact cut_w (by simp [hn, wrap64s (n := (i : Int) + 1) (by omega) (by omega)])
        · have hn : car a b (i + 1) = 0 := by omega
          simp [h4, hl]
          refine ⟨by omega, ⟨i + 1, by omega⟩, by simp; omega, ?_⟩
          exact cut_w (by simp [hn, wrap64s (n := (i : Int) + 1) (by omega) (by omega)])
    · have h4 : i = 4 := by omega
      subst h4
      simp [mx_four]
      refine WO_callP [] rfl rfl fL_spec (by simp) (by simp) ?_
      simp
      refine WO_callP [] rfl rfl (fBelow2_spec _ Lq hs (by decide)) (by simp) (by simp) ?_
      simp
      refine WC_dec (fun h => ?_) (fun h => ?_)
      · simp
        exact fin_W (by simp [onceN, h])
      · simp
        refine WO_callP [] rfl rfl fL_spec (by simp) (by simp) ?_
        simp
        refine WO_callP [] rfl rfl (fRLess_spec _ Lq (by omega)) (by simp) (by simp) ?_
        simp
        exact fin_W (by simp [onceN, h])
/-! ### The order -/
theorem onceN_mod {a : Nat} (h : a < 2 * Lq) : onceN a = a % Lq := by
  simp only [onceN]
  split
  · rw [Nat.mod_eq_of_lt (by assumption)]
  · rw [Nat.mod_eq_sub_mod (by omega), Nat.mod_eq_of_lt (by omega)]
theorem Lq_lt : Lq < 2 ^ 253 := by decide
/-- A sum of numbers below the order, modulo it. -/
theorem fAdd_mod (a b : Nat) (ha : a < Lq) (hb : b < Lq) : FSpec Try.prog 18 [.agg (q4 a), .agg (q4 b)] [] (.agg (q4 ((a + b) % Lq))) [] := by
  have h := Lq_lt
  have e := fAdd_spec a b (by omega)
  rw [onceN_mod (by omega)] at e
  exact e
theorem fAddL_mod (a b : Nat) (ha : a < Lq) (hb : b < Lq) : FSpec Try.prog 19 [.agg (q4 a), .agg (q4 b)] [] (.agg (q4 ((a + b) % Lq))) [] := by
  have h := Lq_lt
  have e := fAddL_spec a b (by omega)
  rw [onceN_mod (by omega)] at e
  exact e
theorem fDouble_mod (n bit : Nat) (hn : n < Lq) (hb : bit ≤ 1) : FSpec Try.prog 53 [.agg (q4 n), .int .i64 bit] [] (.agg (q4 ((2 * n + bit) % Lq))) [] := by
  have h := Lq_lt
  have e := fDouble_spec n bit hb (by omega)
  rw [onceN_mod (by omega)] at e
  exact e
end Go.Proofs.Ytcmjfjomfdljkaa
