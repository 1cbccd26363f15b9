/-
  Numbers below the order: bytes modulo it.
-/
import Derived.Test.YtcmjfjomfdljkaaS4
set_option linter.unusedSimpArgs false
set_option linter.unusedVariables false
set_option linter.unusedSectionVars false
namespace Go.Proofs.Ytcmjfjomfdljkaa
open Go Go.Fw
attribute [local simp] bv cleanL_bv toBytes_bv ltL_bv atF_drop WS_at_bytes W_nil W_skip W_seq W_reg W_draw W_drawP W_kill W_keep W_block W_blk W_exit W_ret WX_blk WX_c WX_lp WX_li W_li W_condT W_condF W_cond WC_true WC_false
  WR_nil WR_cons WR_o1 WR_o2 o1_chk o2_chk WR_grd WG_tt WG_ff WG_tf WG_ft WG_none WS_some WS_ok1 WSr_no WSr_some WSr_ok1 WSr_at_bytes WH_some WHA_some chkF_cons chkF_nil chkE_some chkE_ok1 chkE_at evF WO_mv WO_pick WO_bin WO_isNil WO_eqA WO_un WO_convI WO_toStr WO_ofStr WO_build WO_buildF WO_load WO_nilCheck WO_fieldAddr WO_field WO_idxA WO_idxS
  WO_ixA WO_slS WO_slA WO_len WO_lenK WO_appF WO_extract WO_s2a WO_iface WO_min WO_max WO_alloc WO_box WO_buildO WO_store WO_appO WO_copy WO_makeS WO_allocA WO_makeA WO_cvt cvtF_slice WO_look lookF_map alAF mkAF WO_func bind1_v bind2_v bindH_v bindH2_v bindS_v okO_v pickO_t pickO_f
  Env.keep Env.get Env.set Env.del Env.dels Env.setO Env.opd Env.opds Env.opdO Env.parts intF aggF fillA splice cleanL AV.clean bndF fldF_one fldF_many toStrF boxF buildOF
  loadF_rptr loadF_rptrN atF_zero atF_succ blk_cons_zero blk_cons_succ loadF_p loadF_pN atB_some atBN_some retPost resL one
  okc_bool cells_bool notStr_bool okc_int cells_int notStr_int okc_str cells_str notStr_str okc_nil cells_nil notStr_nil okc_ptr cells_ptr notStr_ptr okc_rptr cells_rptr notStr_rptr okc_slice cells_slice notStr_slice 
  okc_list cells_list notStr_list okc_func cells_func notStr_func okc_nilFunc cells_nilFunc notStr_nilFunc okc_iface cells_iface notStr_iface okc_nilIface cells_nilIface notStr_nilIface okc_agg cells_agg notStr_agg 
  okc_tuple cells_tuple notStr_tuple lenF_slice lenF_list lenF_str faF_ptr faF_rptr idxSF_slice idxSF_list idxAF_ptr idxAF_rptr ixAF_many ixAF_one convF_int unF_neg unF_xor unF_not nilF_0nil nilF_0ptr nilF_0rptr nilF_1 
  nilF_2nil nilF_2f nilF_3nil nilF_3f binF_int binF_beq binF_bne binF_sadd binF_seq binF_sne sliceCells_list sliceCells_str sliceCells_slice cutC_some szAV_list szAV_str szAV_slice oneSl_list oneSl_slice slSF_sliceS 
  slSF_sliceN slSF_list slAF_rptr slAF_ptr appFF_list appOF_list appOF_sliceN appOF_sliceS storeF_ptr copyF_slice extF_tuple s2aF_slice s2aF_list nchkF_ptr nchkF_rptr nchkF_f mmF_int ofStrF_str mkSF_int eqAF_agg
attribute [local irreducible] W WX WR WO WS WSr WH WHA WG WC FSpec
attribute [local simp] lendAll
attribute [local congr] W_cg WR_cg WO_cg WS_cg WSr_cg WH_cg WHA_cg WG_cg WC_cg WX_cg
attribute [local simp] Env.has AV.wkr wkrL AV.wkr_refl wkrL_refl AV.ltI ltL leHW hasW Env.lt AV.ids idsL AV.sub subL AV.ren AV.frz frzS frzP frzE frzL Heap.frz Blk.frz Blk.ren renL rnS rnP hasR leR idsL_bv subL_bv
attribute [local simp] cleanL_take cleanL_drop ltL_take ltL_drop idsL_take idsL_drop subL_take subL_drop cleanL_append ltL_append idsL_append subL_append
attribute [local simp] renE mvN mvH
attribute [local simp] fwd backH putL bwd
attribute [local simp] u8i u8e List.idxOf_cons
attribute [local simp] hasRW leRW
attribute [local simp] WS_at_map WSr_at_map WS_at_q4 WSr_at_q4 WS_at_mx mx_set' WS_at_arr WSr_at_arr loadWP splice_full Int.natCast_inj
theorem mul_step0 (M a b k : Nat) : (2 * (a * (b / 2 ^ (k + 1)) % M) + 0) % M = 2 * a * (b / 2 ^ (k + 1)) % M := by
  rw [Nat.two_mul]; exact mul_step M a b k
/-- The document's product. -/
theorem fMulL_spec (a b : Nat) (ha : a < Lq) (hb : b < 2 ^ 256) : FSpec Try.prog 21 [.agg (q4 a), .agg (q4 b)] [] (.agg (q4 (a * b % Lq))) [] := by
  have hA := fAddL_mod
  have hD := fDouble_mod
  have hpos : 0 < Lq := by decide
  generalize Lq = M at *
  refine FSpec.of_W fMulL_low (by simp) ?_
  simp only [initEnv]
  simp
  refine W_loop (X := { k : Nat // k ≤ 256 }) (fun i => [(2, .ptr 0 0), (3, .ptr 1 0), (4, .ptr 2 0), (5, .ptr 3 0), (6, .int .i64 ((i.1 : Int) - 1))]) (fun i => [some ⟨q4 a, 26, true⟩, some ⟨q4 b, 26, true⟩, some ⟨q4 0, 26, true⟩, some ⟨q4 (a * (b / 2 ^ i.1) % M), 26, true⟩]) (fun i => i.1) ⟨256, by omega⟩ retPost_le ?_ ?_
  · have e : b / 2 ^ 256 = 0 := Nat.div_eq_of_lt hb
    exact cut_w (by simp [e, q4_zero])
  · rintro ⟨i, hi⟩
    obtain _ | k := i
    · simp
      exact fin_W (by simp)
    · simp
      have hm := Nat.mod_lt (a * (b / 2 ^ (k + 1))) hpos
      have hD1 := hD _ 0 hm (by omega)
      rw [mul_step0] at hD1
      refine WO_callP [] rfl rfl hD1 (by simp) (by simp) ?_
      obtain ⟨q, hq⟩ : ∃ q, q = k / 64 := ⟨_, rfl⟩
      obtain ⟨r, hr⟩ : ∃ r, r = k % 64 := ⟨_, rfl⟩
      have e1 : (k : Int).tdiv 64 = (q : Int) := by rw [hq]; rfl
      have e2 : (k : Int).tmod 64 = (r : Int) := by rw [hr]; rfl
      have e5 : ((wd b q : Nat) : Int).fdiv (2 ^ min r 64) = ((wd b q / 2 ^ r : Nat) : Int) := by rw [show min r 64 = r by omega]; exact shr_nat _ _
      have e6 : (q : Int) < 4 := by omega
      have e7 : q < 4 := by omega
      have e3 := wd_bit' b k
      rw [← hq, ← hr] at e3
      generalize wd b q / 2 ^ r = z at *
      have e8 : (z : Int).tmod 2 = ((b / 2 ^ k % 2 : Nat) : Int) := by rw [← e3]; rfl
      obtain ⟨y, hy⟩ : ∃ y, y = b / 2 ^ k % 2 := ⟨_, rfl⟩
      rw [← hy] at e8
      have e9 : (y : Int) = 1 ↔ y = 1 := by omega
      simp [e1, e2, e6, e7, e5, e8, IntKind.bits, wrap64s (n := (q : Int)) (by omega) (by omega)]
      refine WC_dec (fun h => ?_) (fun h => ?_)
      · have h' : b / 2 ^ k % 2 = 1 := by omega
        simp
        refine WO_callP [] rfl rfl (hA _ _ (Nat.mod_lt _ hpos) ha) (by simp) (by simp) ?_
        rw [mul_bit1 M a b k h']
        simp
        refine ⟨⟨k, by omega⟩, by simp, ?_⟩
        exact cut_w (by simp [wrap64s (n := (k : Int) - 1) (by omega) (by omega)])
      · have h' : ¬ b / 2 ^ k % 2 = 1 := by omega
        simp
        refine ⟨⟨k, by omega⟩, by simp, ?_⟩
        rw [mul_bit0 M a b k h']
        exact cut_w (by simp [wrap64s (n := (k : Int) - 1) (by omega) (by omega)])
theorem red_step (M n k : Nat) : (n / 2 ^ (k + 1) % M + n / 2 ^ (k + 1) % M) % M = 2 * (n / 2 ^ (k + 1)) % M := by
  rw [← Nat.two_mul, Nat.mul_mod, Nat.mod_mod, ← Nat.mul_mod]
theorem red_bit0 (M n k : Nat) (h : ¬ n / 2 ^ k % 2 = 1) : 2 * (n / 2 ^ (k + 1)) % M = n / 2 ^ k % M := by
  have e : n / 2 ^ k = 2 * (n / 2 ^ (k + 1)) := by have := bit_step n k; omega
  rw [e]
theorem red_bit1 (M n k : Nat) (h : n / 2 ^ k % 2 = 1) : (2 * (n / 2 ^ (k + 1)) % M + 1) % M = n / 2 ^ k % M := by
  have e : n / 2 ^ k = 2 * (n / 2 ^ (k + 1)) + 1 := by have := bit_step n k; omega
  rw [e, Nat.mod_add_mod]
theorem red_dbl (M n k : Nat) : (2 * (n / 2 ^ (k + 1) % M) + n / 2 ^ k % 2) % M = n / 2 ^ k % M := by
  rw [Nat.add_mod, Nat.mul_mod, Nat.mod_mod, ← Nat.mul_mod, ← Nat.add_mod, ← bit_step]
theorem byN_top (b : List UInt8) : byN b / 2 ^ (8 * b.length) = 0 := by
  rw [Nat.pow_mul]; exact Nat.div_eq_of_lt (byN_lt b)
/-- The number of bytes, modulo the order. -/
theorem fReduce_spec (b : List UInt8) (md : Md) (hb : b.length < 2 ^ 40) : FSpec Try.prog 13 [.list 1 md (b.map bv)] [] (.agg (q4 (byN b % Lq))) [] := by
  have hA := fAdd_mod
  have hpos : 1 < Lq := by decide
  generalize Lq = M at *
  refine FSpec.of_W fReduce_low (by simp) ?_
  simp only [initEnv]
  simp
  refine W_loop (X := { k : Nat // k ≤ 8 * b.length }) (fun i => [(0, .list 1 md (b.map bv)), (2, .ptr 0 0), (3, .ptr 1 0), (4, .int .i64 ((i.1 : Int) - 1))]) (fun i => [some ⟨q4 0, 28, true⟩, some ⟨q4 (byN b / 2 ^ i.1 % M), 28, true⟩]) (fun i => i.1) ⟨8 * b.length, by omega⟩ retPost_le ?_ ?_
  · have e := byN_top b
    have e2 : IntKind.i64.wrap (IntKind.i64.wrap (8 * (b.length : Int)) - 1) = 8 * (b.length : Int) - 1 := by rw [wrap64s (n := 8 * (b.length : Int)) (by omega) (by omega), wrap64s (by omega) (by omega)]
    exact cut_w (by simp [e, e2, q4_zero])
  · rintro ⟨i, hi⟩
    obtain _ | k := i
    · simp
      exact fin_W (by simp)
    · simp
      have hm := Nat.mod_lt (byN b / 2 ^ (k + 1)) (Nat.lt_trans Nat.zero_lt_one hpos)
      have hA1 := hA _ _ hm hm
      rw [red_step] at hA1
      refine WO_callP [] rfl rfl hA1 (by simp) (by simp) ?_
      obtain ⟨q, hq⟩ : ∃ q, q = k / 8 := ⟨_, rfl⟩
      obtain ⟨r, hr⟩ : ∃ r, r = k % 8 := ⟨_, rfl⟩
      have e1 : (k : Int).tdiv 8 = (q : Int) := by rw [hq]; rfl
      have e2 : (k : Int).tmod 8 = (r : Int) := by rw [hr]; rfl
      have e3 := byN_bitD b k
      rw [← hq, ← hr] at e3
      have e7 : q < b.length := by omega
      have e5 : (((b.getD q 0).toNat : Nat) : Int).fdiv (2 ^ min r 8) = (((b.getD q 0).toNat / 2 ^ r : Nat) : Int) := by rw [show min r 8 = r by omega]; exact shr_nat _ _
      have e4 := and1_u8 (a := (b.getD q 0).toNat / 2 ^ r) (Nat.lt_of_le_of_lt (Nat.div_le_self _ _) (UInt8.toNat_lt _))
      rw [e3] at e4
      rw [← e5] at e4
      obtain ⟨y, hy⟩ : ∃ y, y = byN b / 2 ^ k % 2 := ⟨_, rfl⟩
      rw [← hy] at e4
      have e9 : (y : Int) = 1 ↔ y = 1 := by omega
      have e6 : b[q].toNat = (b.getD q 0).toNat := by simp [e7]
      rw [← e6] at e4
      simp [e1, e2, e7, e4, IntKind.bits, wrap64s (n := (q : Int)) (by omega) (by omega)]
      have e8 : ([AV.int .u64 1, .int .u64 0, .int .u64 0, .int .u64 0] : List AV) = q4 1 := by kernel_rfl
      refine WC_dec (fun h => ?_) (fun h => ?_)
      · have h' : byN b / 2 ^ k % 2 = 1 := by omega
        have hA2 := hA _ 1 (Nat.mod_lt (2 * (byN b / 2 ^ (k + 1))) (Nat.lt_trans Nat.zero_lt_one hpos)) hpos
        rw [red_bit1 M _ k h'] at hA2
        simp [e8]
        refine WO_callP [] rfl rfl hA2 (by simp) (by simp) ?_
        simp
        refine ⟨⟨k, by omega⟩, by simp, ?_⟩
        exact cut_w (by simp [wrap64s (n := (k : Int) - 1) (by omega) (by omega)])
      · have h' : ¬ byN b / 2 ^ k % 2 = 1 := by omega
        simp
        refine ⟨⟨k, by omega⟩, by simp, ?_⟩
        rw [red_bit0 M _ k h']
        exact cut_w (by simp [wrap64s (n := (k : Int) - 1) (by omega) (by omega)])
/-- The bits of bytes, the lowest first. -/
def bitsN (m n : Nat) : List Nat := (List.range m).map fun i => n / 2 ^ i % 2
theorem bitsN_succ (m n : Nat) : bitsN (m + 1) n = bitsN m n ++ [n / 2 ^ m % 2] := by simp [bitsN, List.range_succ]
theorem bitsN_len (m n : Nat) : (bitsN m n).length = m := by simp [bitsN]
theorem fBits_spec (b : List UInt8) (md : Md) (hb : b.length < 2 ^ 40) : FSpec Try.prog 52 [.list 1 md (b.map bv)] [] (.list 1 ⟨false, false, false⟩ ((bitsN (8 * b.length) (byN b)).map (nV .i64))) [] := by
  refine FSpec.of_W fBits_low (by simp) ?_
  simp only [initEnv]
  simp
  refine W_loop (X := { i : Nat // i ≤ 8 * b.length }) (fun i => [(0, .list 1 md (b.map bv)), (3, .slice 1 0 0 i.1 none), (4, .int .i64 i.1)]) (fun i => [some ⟨(bitsN i.1 (byN b)).map (nV .i64), 3, false⟩]) (fun i => 8 * b.length - i.1) ⟨0, by omega⟩ retPost_le ?_ ?_
  · refine cut_trans (cut_ghost 3 1 3 (by simp) rfl rfl) (cut_w ?_)
    simp [bitsN]
  · rintro ⟨k, hi⟩
    simp only
    simp
    have e0 : IntKind.i64.wrap (8 * (b.length : Int)) = ((8 * b.length : Nat) : Int) := by rw [wrap64s (by omega) (by omega)]; simp
    simp only [e0]
    refine WC_dec (fun h => ?_) (fun h => ?_)
    · obtain ⟨q, hq⟩ : ∃ q, q = k / 8 := ⟨_, rfl⟩
      obtain ⟨r, hr⟩ : ∃ r, r = k % 8 := ⟨_, rfl⟩
      have e1 : (k : Int).tdiv 8 = (q : Int) := by rw [hq]; rfl
      have e2 : (k : Int).tmod 8 = (r : Int) := by rw [hr]; rfl
      have e3 := byN_bitD b k
      rw [← hq, ← hr] at e3
      have e7 : q < b.length := by omega
      have e6 : b[q].toNat = (b.getD q 0).toNat := by simp [e7]
      have e5 : ((b[q].toNat : Nat) : Int).fdiv (2 ^ min r 8) = ((b[q].toNat / 2 ^ r : Nat) : Int) := by rw [show min r 8 = r by omega]; exact shr_nat _ _
      rw [← e6] at e3
      generalize b[q].toNat / 2 ^ r = z at *
      have e4 : (z : Int).tmod 2 = ((z % 2 : Nat) : Int) := rfl
      rw [e3] at e4
      obtain ⟨y, hy⟩ : ∃ y, y = byN b / 2 ^ k % 2 := ⟨_, rfl⟩
      rw [← hy] at e4
      simp [e1, e2, e7, e4, e5, IntKind.bits, bitsN_len, wrap64s (n := (q : Int)) (by omega) (by omega), wrap64s (n := (y : Int)) (by omega) (by omega)]
      refine ⟨by omega, ⟨k + 1, by omega⟩, by simp; omega, ?_⟩
      refine cut_rw [1] (by simp) rfl ?_ ?_
      · simp [wrap64s (n := (k : Int) + 1) (by omega) (by omega)]
      · simp [bitsN_succ, List.take_of_length_le, bitsN_len, nV, ← hy]
    · have : k = 8 * b.length := by omega
      subst this
      simp
      exact fin_sl 0 rfl (by simp [bitsN_len]) (by simp) (by simp)
theorem fRReduce_spec (b : List UInt8) (md : Md) (hb : b.length < 2 ^ 40) : FSpec Try.prog 14 [.list 1 md (b.map bv)] [] (.agg (q4 (byN b % Lq))) [] := by
  have hD := fDouble_mod
  have hpos : 1 < Lq := by decide
  generalize Lq = M at *
  refine FSpec.of_W fRReduce_low (by simp) ?_
  simp only [initEnv]
  simp
  refine WO_callP [] rfl rfl (fBits_spec b md hb) (by simp) (by simp) ?_
  simp [bitsN_len]
  refine W_loop (X := { k : Nat // k ≤ 8 * b.length }) (fun i => [(2, .ptr 0 0), (3, .list 1 ⟨false, false, false⟩ ((bitsN (8 * b.length) (byN b)).map (nV .i64))), (4, .ptr 1 0), (5, .int .i64 ((i.1 : Int) - 1))]) (fun i => [some ⟨q4 0, 26, true⟩, some ⟨q4 (byN b / 2 ^ i.1 % M), 26, true⟩]) (fun i => i.1) ⟨8 * b.length, by omega⟩ retPost_le ?_ ?_
  · have e := byN_top b
    have e2 : IntKind.i64.wrap (8 * (b.length : Int) - 1) = 8 * (b.length : Int) - 1 := by rw [wrap64s (by omega) (by omega)]
    exact cut_w (by simp [e, e2, q4_zero])
  · rintro ⟨i, hi⟩
    obtain _ | k := i
    · simp
      exact fin_W (by simp)
    · have hg : (bitsN (8 * b.length) (byN b))[k]? = some (byN b / 2 ^ k % 2) := by simp [bitsN, show k < 8 * b.length by omega]
      have hD1 := hD _ (byN b / 2 ^ k % 2) (Nat.mod_lt (byN b / 2 ^ (k + 1)) (Nat.lt_trans Nat.zero_lt_one hpos)) (by omega)
      rw [red_dbl] at hD1
      obtain ⟨y, hy⟩ : ∃ y, y = byN b / 2 ^ k % 2 := ⟨_, rfl⟩
      rw [← hy] at hg hD1
      simp [hg, bitsN_len, nV]
      refine ⟨by omega, ?_⟩
      refine WO_callP [] rfl rfl hD1 (by simp) (by simp) ?_
      simp
      refine ⟨⟨k, by omega⟩, by simp, ?_⟩
      exact cut_w (by simp [wrap64s (n := (k : Int) - 1) (by omega) (by omega)])
end Go.Proofs.Ytcmjfjomfdljkaa
