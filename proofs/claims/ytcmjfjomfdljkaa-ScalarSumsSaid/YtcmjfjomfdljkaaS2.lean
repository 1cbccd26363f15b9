/-
  Numbers below the order: sums.
-/
import Derived.Test.YtcmjfjomfdljkaaS1
set_option linter.unusedSimpArgs false
set_option linter.unusedVariables false
set_option linter.unusedSectionVars false
namespace Go.Proofs.Ytcmjfjomfdljkaa
open Go Go.Fw
attribute [local simp] bv cleanL_bv toBytes_bv ltL_bv atF_drop WS_at_bytes W_nil W_skip W_seq W_reg W_draw W_drawP W_kill W_keep W_block W_blk W_exit W_ret WX_blk WX_c WX_lp WX_li W_li W_condT W_condF W_cond WC_true WC_false
  WR_nil WR_cons WR_o1 WR_o2 o1_chk o2_chk WR_grd WG_tt WG_ff WG_tf WG_ft WG_none WS_some WS_ok1 WSr_no WSr_some WSr_ok1 WSr_at_bytes WH_some WHA_some chkF_cons chkF_nil chkE_some chkE_ok1 chkE_at evF WO_mv WO_pick WO_bin WO_isNil WO_eqA WO_un WO_convI WO_toStr WO_ofStr WO_build WO_buildF WO_load WO_nilCheck WO_fieldAddr WO_field WO_idxA WO_idxS
  WO_ixA WO_slS WO_slA WO_len WO_lenK WO_appF WO_extract WO_s2a WO_iface WO_min WO_max WO_alloc WO_box WO_buildO WO_store WO_appO WO_copy WO_makeS WO_allocA WO_makeA WO_cvt cvtF_slice WO_look lookF_map alAF mkAF WO_func bind1_v bind2_v bindH_v bindH2_v bindS_v okO_v pickO_t pickO_f
  Env.keep Env.get Env.set Env.del Env.dels Env.setO Env.opd Env.opds Env.opdO Env.parts intF aggF fillA splice cleanL AV.clean bndF fldF_one fldF_many toStrF boxF buildOF
  loadF_rptr loadF_rptrN atF_zero atF_succ blk_cons_zero blk_cons_succ loadF_p loadF_pN atB_some atBN_some retPost resL one
  okc_bool cells_bool notStr_bool okc_int cells_int notStr_int okc_str cells_str notStr_str okc_nil cells_nil notStr_nil okc_ptr cells_ptr notStr_ptr okc_rptr cells_rptr notStr_rptr okc_slice cells_slice notStr_slice 
  okc_list cells_list notStr_list okc_func cells_func notStr_func okc_nilFunc cells_nilFunc notStr_nilFunc okc_iface cells_iface notStr_iface okc_nilIface cells_nilIface notStr_nilIface okc_agg cells_agg notStr_agg 
  okc_tuple cells_tuple notStr_tuple lenF_slice lenF_list lenF_str faF_ptr faF_rptr idxSF_slice idxSF_list idxAF_ptr idxAF_rptr ixAF_many ixAF_one convF_int unF_neg unF_xor unF_not nilF_0nil nilF_0ptr nilF_0rptr nilF_1 
  nilF_2nil nilF_2f nilF_3nil nilF_3f binF_int binF_beq binF_bne binF_sadd binF_seq binF_sne sliceCells_list sliceCells_str sliceCells_slice cutC_some szAV_list szAV_str szAV_slice oneSl_list oneSl_slice slSF_sliceS 
  slSF_sliceN slSF_list slAF_rptr slAF_ptr appFF_list appOF_list appOF_sliceN appOF_sliceS storeF_ptr copyF_slice extF_tuple s2aF_slice s2aF_list nchkF_ptr nchkF_rptr nchkF_f mmF_int ofStrF_str mkSF_int eqAF_agg
attribute [local irreducible] W WX WR WO WS WSr WH WHA WG WC FSpec
attribute [local simp] lendAll
attribute [local congr] W_cg WR_cg WO_cg WS_cg WSr_cg WH_cg WHA_cg WG_cg WC_cg WX_cg
attribute [local simp] Env.has AV.wkr wkrL AV.wkr_refl wkrL_refl AV.ltI ltL leHW hasW Env.lt AV.ids idsL AV.sub subL AV.ren AV.frz frzS frzP frzE frzL Heap.frz Blk.frz Blk.ren renL rnS rnP hasR leR idsL_bv subL_bv
attribute [local simp] cleanL_take cleanL_drop ltL_take ltL_drop idsL_take idsL_drop subL_take subL_drop cleanL_append ltL_append idsL_append subL_append
attribute [local simp] renE mvN mvH
attribute [local simp] fwd backH putL bwd
attribute [local simp] u8i u8e List.idxOf_cons
attribute [local simp] hasRW leRW
attribute [local simp] WS_at_q4 WSr_at_q4 WS_at_mx mx_set' loadWP splice_full Int.natCast_inj
theorem add64_q (a b i : Nat) (H : Heap) : FSpec Try.prog 56 [.int .u64 (wd a i : Nat), .int .u64 (wd b i : Nat), .int .u64 (car a b i : Nat)] H (.tuple [.int .u64 (wd (a + b) i : Nat), .int .u64 (car a b (i + 1) : Nat)]) H := by
  rw [wd_add, ← car_succ]
  exact FSpec.add64 (fn := Try.f56) Try.func56 (by kernel_rfl) (by kernel_rfl) (by kernel_rfl) (by kernel_rfl) _ _ _ (car_le a b i)
theorem sub64_q (a b i : Nat) (h : b ≤ a) (H : Heap) : FSpec Try.prog 67 [.int .u64 (wd a i : Nat), .int .u64 (wd b i : Nat), .int .u64 (bor a b i : Nat)] H (.tuple [.int .u64 (wd (a - b) i : Nat), .int .u64 (bor a b (i + 1) : Nat)]) H := by
  rw [← wd_sub a b i h, ← bor_succ]
  exact FSpec.sub64 (fn := Try.f67) Try.func67 (by kernel_rfl) (by kernel_rfl) (by kernel_rfl) (by kernel_rfl) _ _ _ (bor_le a b i)
/-- Below the order, from below twice it. -/
def onceN (a : Nat) : Nat := if a < Lq then a else a - Lq
theorem fOnce_spec (a : Nat) (ha : a < 2 ^ 256) : FSpec Try.prog 57 [.agg (q4 a)] [] (.agg (q4 (onceN a))) [] := by
  obtain ⟨M, hM⟩ : ∃ M, M = Lq := ⟨Lq, rfl⟩
  have hO := fOrder_spec
  have hM2 : M < 2 ^ 256 := by rw [hM]; decide
  simp only [onceN, ← hM] at hO ⊢
  clear hM
  refine FSpec.of_W fOnce_low (by simp) ?_
  simp only [initEnv]
  simp
  refine WO_callP [] rfl rfl hO (by simp) (by simp) ?_
  simp
  refine WO_callP [] rfl rfl (fLess_spec a M ha hM2) (by simp) (by simp) ?_
  simp
  refine WC_dec (fun h => ?_) (fun h => ?_)
  · simp
    exact fin_W (by simp [h])
  · simp
    refine WO_callP [] rfl rfl hO (by simp) (by simp) ?_
    simp
    refine W_loop (X := { i : Nat // i ≤ 4 }) (fun i => [(1, .ptr 0 0), (2, .ptr 1 0), (3, .ptr 2 0), (4, .int .u64 (bor a M i.1 : Nat)), (11, .agg (q4 M)), (12, .int .i64 i.1)]) (fun i => [some ⟨q4 a, 28, true⟩, some ⟨q4 0, 28, true⟩, some ⟨mx i.1 (a - M) 0, 28, true⟩]) (fun i => 4 - i.1) ⟨0, by omega⟩ retPost_le ?_ ?_
    · exact cut_w (by simp [bor_zero, mx_zero, q4_zero])
    · rintro ⟨i, hi⟩
      simp only
      simp
      refine WC_dec (fun hl => ?_) (fun hl => ?_)
      · have h4 : i < 4 := by omega
        simp [h4, hl]
        refine WO_call rfl (sub64_q a M i (by omega) _) (by simp) ?_
        simp [h4, hl]
        refine ⟨by omega, ⟨i + 1, by omega⟩, by simp; omega, ?_⟩
        exact cut_w (by simp [wrap64s (n := (i : Int) + 1) (by omega) (by omega)])
      · have h4 : i = 4 := by omega
        subst h4
        simp [mx_four]
        exact fin_W (by simp [h])
/-- A sum, below the order. -/
theorem fAdd_spec (a b : Nat) (hs : a + b < 2 ^ 256) : FSpec Try.prog 18 [.agg (q4 a), .agg (q4 b)] [] (.agg (q4 (onceN (a + b)))) [] := by
  refine FSpec.of_W fAdd_low (by simp) ?_
  simp only [initEnv]
  simp
  refine W_loop (X := { i : Nat // i ≤ 4 }) (fun i => [(2, .ptr 0 0), (3, .ptr 1 0), (4, .ptr 2 0), (5, .ptr 3 0), (6, .int .u64 (car a b i.1 : Nat)), (8, .int .i64 i.1)]) (fun i => [some ⟨q4 a, 28, true⟩, some ⟨q4 b, 28, true⟩, some ⟨q4 0, 28, true⟩, some ⟨mx i.1 (a + b) 0, 28, true⟩]) (fun i => 4 - i.1) ⟨0, by omega⟩ retPost_le ?_ ?_
  · exact cut_w (by simp [car_zero, mx_zero, q4_zero])
  · rintro ⟨i, hi⟩
    simp only
    simp
    refine WC_dec (fun hl => ?_) (fun hl => ?_)
    · have h4 : i < 4 := by omega
      simp [h4, hl]
      refine WO_call rfl (add64_q a b i _) (by simp) ?_
      simp [h4, hl]
      refine ⟨by omega, ⟨i + 1, by omega⟩, by simp; omega, ?_⟩
      exact cut_w (by simp [wrap64s (n := (i : Int) + 1) (by omega) (by omega)])
    · have h4 : i = 4 := by omega
      subst h4
      simp [mx_four]
      refine WO_callP [] rfl rfl (fOnce_spec (a + b) hs) (by simp) (by simp) ?_
      simp
      exact fin_W (by simp)
theorem sub_wrap (a b i : Nat) (h : b ≤ a) : IntKind.u64.wrap (IntKind.u64.wrap ((wd a i : Int) - (wd b i : Int)) - (bor a b i : Int)) = (wd (a - b) i : Nat) := by
  rw [← wd_sub a b i h]
  have := wd_lt a i
  have := wd_lt b i
  have := bor_le a b i
  unfold IntKind.wrap
  simp [IntKind.signed, IntKind.bits]
  omega
theorem fRLess_spec (a b : Nat) (h : b ≤ a) : FSpec Try.prog 58 [.agg (q4 a), .agg (q4 b)] [] (.agg (q4 (a - b))) [] := by
  refine FSpec.of_W fRLess_low (by simp) ?_
  simp only [initEnv]
  simp
  refine W_loop (X := { i : Nat // i ≤ 4 }) (fun i => [(2, .ptr 0 0), (3, .ptr 1 0), (4, .ptr 2 0), (5, .int .u64 (bor a b i.1 : Nat)), (6, .int .i64 i.1)]) (fun i => [some ⟨mx i.1 (a - b) a, 26, true⟩, some ⟨q4 b, 26, true⟩, some ⟨q4 0, 26, true⟩]) (fun i => 4 - i.1) ⟨0, by omega⟩ retPost_le ?_ ?_
  · exact cut_w (by simp [bor_zero, mx_zero, q4_zero])
  · rintro ⟨i, hi⟩
    simp only
    simp
    refine WC_dec (fun hl => ?_) (fun hl => ?_)
    · have h4 : i < 4 := by omega
      have hb := bor_succ a b i
      have hle := bor_le a b i
      have hw := sub_wrap a b i h
      by_cases h1 : wd a i < wd b i
      · rw [if_pos (by omega)] at hb
        simp [h4, hl, h1, hw]
        refine ⟨by omega, ⟨i + 1, by omega⟩, by simp; omega, ?_⟩
        exact cut_w (by simp [← hb, wrap64s (n := (i : Int) + 1) (by omega) (by omega)])
      · by_cases h2 : wd a i = wd b i
        · by_cases h3 : bor a b i = 1
          · have h3' : ((bor a b i : Nat) : Int) = 1 := by omega
            rw [if_pos (by omega)] at hb
            rw [h2] at hw
            simp only [Int.sub_self, h3'] at hw
            simp [h4, hl, h1, h2, h3, h3', hw]
            refine ⟨by omega, ⟨i + 1, by omega⟩, by simp; omega, ?_⟩
            exact cut_w (by simp [← hb, wrap64s (n := (i : Int) + 1) (by omega) (by omega)])
          · have h3' : ¬ ((bor a b i : Nat) : Int) = 1 := by omega
            rw [if_neg (by omega)] at hb
            rw [h2] at hw
            simp only [Int.sub_self, h3'] at hw
            simp [h4, hl, h1, h2, h3, h3', hw]
            refine ⟨by omega, ⟨i + 1, by omega⟩, by simp; omega, ?_⟩
            exact cut_w (by simp [← hb, wrap64s (n := (i : Int) + 1) (by omega) (by omega)])
        · rw [if_neg (by omega)] at hb
          simp [h4, hl, h1, h2, hw]
          refine ⟨by omega, ⟨i + 1, by omega⟩, by simp; omega, ?_⟩
          exact cut_w (by simp [← hb, wrap64s (n := (i : Int) + 1) (by omega) (by omega)])
    · have h4 : i = 4 := by omega
      subst h4
      simp [mx_four]
      exact fin_W (by simp)
end Go.Proofs.Ytcmjfjomfdljkaa
