/-
  scalars
-/
import Derived.Test.YthgibibeoapfbaaeKS
set_option linter.unusedSimpArgs false
set_option linter.unnecessarySimpa false
set_option linter.unusedVariables false
set_option linter.unusedSectionVars false
namespace Go.Proofs.Ythgibibeoapfbaa
open Go Go.Fw
attribute [local simp] bv cleanL_bv toBytes_bv ltL_bv atF_drop WS_at_bytes W_nil W_skip W_seq W_reg W_draw W_drawP W_kill W_keep W_block W_blk W_exit W_ret WX_blk WX_c WX_lp WX_li W_li W_condT W_condF W_cond WC_true WC_false
  WR_nil WR_cons WR_o1 WR_o2 o1_chk o2_chk WR_grd WG_tt WG_ff WG_tf WG_ft WG_none WS_some WS_ok1 WSr_no WSr_some WSr_ok1 WSr_at_bytes WH_some WHA_some chkF_cons chkF_nil chkE_some chkE_ok1 chkE_at evF WO_mv WO_pick WO_bin WO_isNil WO_eqA WO_un WO_convI WO_toStr WO_ofStr WO_build WO_buildF WO_load WO_nilCheck WO_fieldAddr WO_field WO_idxA WO_idxS
  WO_ixA WO_slS WO_slA WO_len WO_lenK WO_appF WO_extract WO_s2a WO_iface WO_min WO_max WO_alloc WO_box WO_buildO WO_store WO_appO WO_copy WO_makeS WO_allocA WO_makeA WO_cvt cvtF_slice WO_look lookF_map alAF mkAF WO_func bind1_v bind2_v bindH_v bindH2_v bindS_v okO_v pickO_t pickO_f
  Env.keep Env.get Env.set Env.del Env.dels Env.setO Env.opd Env.opds Env.opdO Env.parts intF aggF fillA splice cleanL AV.clean bndF fldF_one fldF_many toStrF boxF buildOF
  loadF_rptr loadF_rptrN atF_zero atF_succ blk_cons_zero blk_cons_succ loadF_p loadF_pN atB_some atBN_some retPost resL one
  okc_bool cells_bool notStr_bool okc_int cells_int notStr_int okc_str cells_str notStr_str okc_nil cells_nil notStr_nil okc_ptr cells_ptr notStr_ptr okc_rptr cells_rptr notStr_rptr okc_slice cells_slice notStr_slice 
  okc_list cells_list notStr_list okc_func cells_func notStr_func okc_nilFunc cells_nilFunc notStr_nilFunc okc_iface cells_iface notStr_iface okc_nilIface cells_nilIface notStr_nilIface okc_agg cells_agg notStr_agg 
  okc_tuple cells_tuple notStr_tuple lenF_slice lenF_list lenF_str faF_ptr faF_rptr idxSF_slice idxSF_list idxAF_ptr idxAF_rptr ixAF_many ixAF_one convF_int unF_neg unF_xor unF_not nilF_0nil nilF_0ptr nilF_0rptr nilF_1 
  nilF_2nil nilF_2f nilF_3nil nilF_3f binF_int binF_beq binF_bne binF_sadd binF_seq binF_sne sliceCells_list sliceCells_str sliceCells_slice cutC_some szAV_list szAV_str szAV_slice oneSl_list oneSl_slice slSF_sliceS 
  slSF_sliceN slSF_list slAF_rptr slAF_ptr appFF_list appOF_list appOF_sliceN appOF_sliceS storeF_ptr copyF_slice extF_tuple s2aF_slice s2aF_list nchkF_ptr nchkF_rptr nchkF_f mmF_int ofStrF_str mkSF_int eqAF_agg
attribute [local irreducible] W WX WR WO WS WSr WH WHA WG WC FSpec
attribute [local simp] lendAll
attribute [local congr] W_cg WR_cg WO_cg WS_cg WSr_cg WH_cg WHA_cg WG_cg WC_cg WX_cg
attribute [local simp] Env.has AV.wkr wkrL AV.wkr_refl wkrL_refl AV.ltI ltL leHW hasW Env.lt AV.ids idsL AV.sub subL AV.ren AV.frz frzS frzP frzE frzL Heap.frz Blk.frz Blk.ren renL rnS rnP hasR leR idsL_bv subL_bv
attribute [local simp] cleanL_take cleanL_drop ltL_take ltL_drop idsL_take idsL_drop subL_take subL_drop cleanL_append ltL_append idsL_append subL_append
attribute [local simp] renE mvN mvH
attribute [local simp] fwd backH putL bwd
attribute [local simp] u8i u8e List.idxOf_cons
attribute [local simp] hasRW leRW
attribute [local simp] WS_at_map WSr_at_map WS_at_q4 WSr_at_q4 WS_at_mx mx_set' WS_at_arr WSr_at_arr loadWP splice_full Int.natCast_inj
theorem q4_Lq : q4 Lq = [.int .u64 6346243789798364141, .int .u64 1503914060200516822, .int .u64 0, .int .u64 1152921504606846976] := by kernel_rfl
theorem fOrder_spec : FSpec Try.prog 43 [] [] (.agg (q4 Lq)) [] := by
  refine FSpec.of_W fOrder_low (by simp) ?_
  simp only [initEnv]
  simp
  exact fin_W (by simp [q4_Lq])
theorem fLess_spec (a b : Nat) (ha : a < 2 ^ 256) (hb : b < 2 ^ 256) : FSpec Try.prog 121 [.agg (q4 a), .agg (q4 b)] [] (.bool (decide (a < b))) [] := by
  refine FSpec.of_W fLess_low (by simp) ?_
  simp only [initEnv]
  simp
  refine W_loop (X := { i : Nat // i ≤ 4 ∧ a / 2 ^ (64 * i) = b / 2 ^ (64 * i) }) (fun i => [(2, .ptr 0 0), (3, .ptr 1 0), (5, .int .i64 ((i.1 : Int) - 1))]) (fun _ => [some ⟨q4 a, 62, true⟩, some ⟨q4 b, 62, true⟩]) (fun i => i.1) ⟨4, by omega, by omega⟩ retPost_le ?_ ?_
  · exact cut_w (by simp)
  · rintro ⟨i, hi, he⟩
    obtain _ | k := i
    · simp
      refine fin_W ?_
      simp at he
      simp [he]
    · have h4 : k < 4 := by omega
      simp [h4]
      refine ⟨by omega, ?_⟩
      refine WC_ndec (fun h => ?_) (fun h => ?_)
      · simp [h4]
        refine ⟨by omega, ?_⟩
        refine fin_W ?_
        simp
        rw [wd_cmp he (by omega)]
      · simp
        refine ⟨⟨k, by omega, wd_eq he (by omega)⟩, by simp, ?_⟩
        exact cut_w (by simp [wrap64s (n := (k : Int) - 1) (by omega) (by omega)])
def onceN (a : Nat) : Nat := if a < Lq then a else a - Lq
theorem fOnce_spec (a : Nat) (ha : a < 2 ^ 256) : FSpec Try.prog 91 [.agg (q4 a)] [] (.agg (q4 (onceN a))) [] := by
  obtain ⟨M, hM⟩ : ∃ M, M = Lq := ⟨Lq, rfl⟩
  have hO := fOrder_spec
  have hM2 : M < 2 ^ 256 := by rw [hM]; decide
  simp only [onceN, ← hM] at hO ⊢
  clear hM
  refine FSpec.of_W fOnce_low (by simp) ?_
  simp only [initEnv]
  simp
  refine WO_callP [] rfl rfl hO (by simp) (by simp) ?_
  simp
  refine WO_callP [] rfl rfl (fLess_spec a M ha hM2) (by simp) (by simp) ?_
  simp
  refine WC_dec (fun h => ?_) (fun h => ?_)
  · simp
    exact fin_W (by simp [h])
  · simp
    refine WO_callP [] rfl rfl hO (by simp) (by simp) ?_
    simp
    refine W_loop (X := { i : Nat // i ≤ 4 }) (fun i => [(1, .ptr 0 0), (2, .ptr 1 0), (3, .ptr 2 0), (4, .int .u64 (bor a M i.1 : Nat)), (11, .agg (q4 M)), (12, .int .i64 i.1)]) (fun i => [some ⟨q4 a, 62, true⟩, some ⟨q4 0, 62, true⟩, some ⟨mx i.1 (a - M) 0, 62, true⟩]) (fun i => 4 - i.1) ⟨0, by omega⟩ retPost_le ?_ ?_
    · exact cut_w (by simp [bor_zero, mx_zero, q4_zero])
    · rintro ⟨i, hi⟩
      simp only
      simp
      refine WC_dec (fun hl => ?_) (fun hl => ?_)
      · have h4 : i < 4 := by omega
        simp [h4, hl]
        refine WO_call rfl (sub64_q a M i (by omega) _) (by simp) ?_
        simp [h4, hl]
        refine ⟨by omega, ⟨i + 1, by omega⟩, by simp; omega, ?_⟩
        exact cut_w (by simp [wrap64s (n := (i : Int) + 1) (by omega) (by omega)])
      · have h4 : i = 4 := by omega
        subst h4
        simp [mx_four]
        exact fin_W (by simp [h])
theorem fAdd_spec (a b : Nat) (hs : a + b < 2 ^ 256) : FSpec Try.prog 42 [.agg (q4 a), .agg (q4 b)] [] (.agg (q4 (onceN (a + b)))) [] := by
  refine FSpec.of_W fAdd_low (by simp) ?_
  simp only [initEnv]
  simp
  refine W_loop (X := { i : Nat // i ≤ 4 }) (fun i => [(2, .ptr 0 0), (3, .ptr 1 0), (4, .ptr 2 0), (5, .ptr 3 0), (6, .int .u64 (car a b i.1 : Nat)), (8, .int .i64 i.1)]) (fun i => [some ⟨q4 a, 62, true⟩, some ⟨q4 b, 62, true⟩, some ⟨q4 0, 62, true⟩, some ⟨mx i.1 (a + b) 0, 62, true⟩]) (fun i => 4 - i.1) ⟨0, by omega⟩ retPost_le ?_ ?_
  · exact cut_w (by simp [car_zero, mx_zero, q4_zero])
  · rintro ⟨i, hi⟩
    simp only
    simp
    refine WC_dec (fun hl => ?_) (fun hl => ?_)
    · have h4 : i < 4 := by omega
      simp [h4, hl]
      refine WO_call rfl (add64_q a b i _) (by simp) ?_
      simp [h4, hl]
      refine ⟨by omega, ⟨i + 1, by omega⟩, by simp; omega, ?_⟩
      exact cut_w (by simp [wrap64s (n := (i : Int) + 1) (by omega) (by omega)])
    · have h4 : i = 4 := by omega
      subst h4
      simp [mx_four]
      refine WO_callP [] rfl rfl (fOnce_spec (a + b) hs) (by simp) (by simp) ?_
      simp
      exact fin_W (by simp)
theorem onceN_mod {a : Nat} (h : a < 2 * Lq) : onceN a = a % Lq := by
  simp only [onceN]
  split
  · rw [Nat.mod_eq_of_lt (by assumption)]
  · rw [Nat.mod_eq_sub_mod (by omega), Nat.mod_eq_of_lt (by omega)]
theorem Lq_lt : Lq < 2 ^ 253 := by decide
theorem fAdd_mod (a b : Nat) (ha : a < Lq) (hb : b < Lq) : FSpec Try.prog 42 [.agg (q4 a), .agg (q4 b)] [] (.agg (q4 ((a + b) % Lq))) [] := by
  have h := Lq_lt
  have e := fAdd_spec a b (by omega)
  rw [onceN_mod (by omega)] at e
  exact e
theorem red_step (M n k : Nat) : (n / 2 ^ (k + 1) % M + n / 2 ^ (k + 1) % M) % M = 2 * (n / 2 ^ (k + 1)) % M := by
  rw [← Nat.two_mul, Nat.mul_mod, Nat.mod_mod, ← Nat.mul_mod]
theorem red_bit0 (M n k : Nat) (h : ¬ n / 2 ^ k % 2 = 1) : 2 * (n / 2 ^ (k + 1)) % M = n / 2 ^ k % M := by
  have e : n / 2 ^ k = 2 * (n / 2 ^ (k + 1)) := by have := bit_step n k; omega
  rw [e]
theorem red_bit1 (M n k : Nat) (h : n / 2 ^ k % 2 = 1) : (2 * (n / 2 ^ (k + 1)) % M + 1) % M = n / 2 ^ k % M := by
  have e : n / 2 ^ k = 2 * (n / 2 ^ (k + 1)) + 1 := by have := bit_step n k; omega
  rw [e, Nat.mod_add_mod]
theorem byN_top8 (b : List UInt8) : byN b / 2 ^ (8 * b.length) = 0 := by
  rw [Nat.pow_mul]; exact Nat.div_eq_of_lt (byN_lt b)
theorem fReduce_spec (b : List UInt8) (md : Md) (hb : b.length < 2 ^ 40) : FSpec Try.prog 40 [.list 1 md (b.map bv)] [] (.agg (q4 (byN b % Lq))) [] := by
  have hA := fAdd_mod
  have hpos : 1 < Lq := by decide
  generalize Lq = M at *
  refine FSpec.of_W fReduce_low (by simp) ?_
  simp only [initEnv]
  simp
  refine W_loop (X := { k : Nat // k ≤ 8 * b.length }) (fun i => [(0, .list 1 md (b.map bv)), (2, .ptr 0 0), (3, .ptr 1 0), (4, .int .i64 ((i.1 : Int) - 1))]) (fun i => [some ⟨q4 0, 62, true⟩, some ⟨q4 (byN b / 2 ^ i.1 % M), 62, true⟩]) (fun i => i.1) ⟨8 * b.length, by omega⟩ retPost_le ?_ ?_
  · have e := byN_top8 b
    have e2 : IntKind.i64.wrap (IntKind.i64.wrap (8 * (b.length : Int)) - 1) = 8 * (b.length : Int) - 1 := by rw [wrap64s (n := 8 * (b.length : Int)) (by omega) (by omega), wrap64s (by omega) (by omega)]
    exact cut_w (by simp [e, e2, q4_zero])
  · rintro ⟨i, hi⟩
    obtain _ | k := i
    · simp
      exact fin_W (by simp)
    · simp
      have hm := Nat.mod_lt (byN b / 2 ^ (k + 1)) (Nat.lt_trans Nat.zero_lt_one hpos)
      have hA1 := hA _ _ hm hm
      rw [red_step] at hA1
      refine WO_callP [] rfl rfl hA1 (by simp) (by simp) ?_
      obtain ⟨q, hq⟩ : ∃ q, q = k / 8 := ⟨_, rfl⟩
      obtain ⟨r, hr⟩ : ∃ r, r = k % 8 := ⟨_, rfl⟩
      have e1 : (k : Int).tdiv 8 = (q : Int) := by rw [hq]; rfl
      have e2 : (k : Int).tmod 8 = (r : Int) := by rw [hr]; rfl
      have e3 := byN_bitD b k
      rw [← hq, ← hr] at e3
      have e7 : q < b.length := by omega
      have e5 : (((b.getD q 0).toNat : Nat) : Int).fdiv (2 ^ min r 8) = (((b.getD q 0).toNat / 2 ^ r : Nat) : Int) := by rw [show min r 8 = r by omega]; exact shr_nat _ _
      have e4 := and1_u8 (a := (b.getD q 0).toNat / 2 ^ r) (Nat.lt_of_le_of_lt (Nat.div_le_self _ _) (UInt8.toNat_lt _))
      rw [e3] at e4
      rw [← e5] at e4
      obtain ⟨y, hy⟩ : ∃ y, y = byN b / 2 ^ k % 2 := ⟨_, rfl⟩
      rw [← hy] at e4
      have e9 : (y : Int) = 1 ↔ y = 1 := by omega
      have e6 : b[q].toNat = (b.getD q 0).toNat := by simp [e7]
      rw [← e6] at e4
      simp [e1, e2, e7, e4, IntKind.bits, wrap64s (n := (q : Int)) (by omega) (by omega)]
      have e8 : ([AV.int .u64 1, .int .u64 0, .int .u64 0, .int .u64 0] : List AV) = q4 1 := by kernel_rfl
      refine WC_dec (fun h => ?_) (fun h => ?_)
      · have h' : byN b / 2 ^ k % 2 = 1 := by omega
        have hA2 := hA _ 1 (Nat.mod_lt (2 * (byN b / 2 ^ (k + 1))) (Nat.lt_trans Nat.zero_lt_one hpos)) hpos
        rw [red_bit1 M _ k h'] at hA2
        simp [e8]
        refine WO_callP [] rfl rfl hA2 (by simp) (by simp) ?_
        simp
        refine ⟨⟨k, by omega⟩, by simp, ?_⟩
        exact cut_w (by simp [wrap64s (n := (k : Int) - 1) (by omega) (by omega)])
      · have h' : ¬ byN b / 2 ^ k % 2 = 1 := by omega
        simp
        refine ⟨⟨k, by omega⟩, by simp, ?_⟩
        rw [red_bit0 M _ k h']
        exact cut_w (by simp [wrap64s (n := (k : Int) - 1) (by omega) (by omega)])
attribute [local simp] WS_at_map WSr_at_map WS_at_q4 WSr_at_q4 WS_at_mx mx_set' WS_at_arr WSr_at_arr loadWP splice_full Int.natCast_inj arr_zero32 fill_zero arr_set upd_fill
end Go.Proofs.Ythgibibeoapfbaa
