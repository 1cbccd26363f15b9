/-
  Numbers below the order: the document's.
-/
import Derived.Test.YthgibibeoapfbaaeG8
set_option linter.unusedSimpArgs false
set_option linter.unnecessarySimpa false
set_option linter.unusedVariables false
set_option linter.unusedSectionVars false
namespace Go.Proofs.Ythgibibeoapfbaa
open Go Go.Fw
attribute [local simp] bv cleanL_bv toBytes_bv ltL_bv atF_drop WS_at_bytes W_nil W_skip W_seq W_reg W_draw W_drawP W_kill W_keep W_block W_blk W_exit W_ret WX_blk WX_c WX_lp WX_li W_li W_condT W_condF W_cond WC_true WC_false
  WR_nil WR_cons WR_o1 WR_o2 o1_chk o2_chk WR_grd WG_tt WG_ff WG_tf WG_ft WG_none WS_some WS_ok1 WSr_no WSr_some WSr_ok1 WSr_at_bytes WH_some WHA_some chkF_cons chkF_nil chkE_some chkE_ok1 chkE_at evF WO_mv WO_pick WO_bin WO_isNil WO_eqA WO_un WO_convI WO_toStr WO_ofStr WO_build WO_buildF WO_load WO_nilCheck WO_fieldAddr WO_field WO_idxA WO_idxS
  WO_ixA WO_slS WO_slA WO_len WO_lenK WO_appF WO_extract WO_s2a WO_iface WO_min WO_max WO_alloc WO_box WO_buildO WO_store WO_appO WO_copy WO_makeS WO_allocA WO_makeA WO_cvt cvtF_slice WO_look lookF_map alAF mkAF WO_func bind1_v bind2_v bindH_v bindH2_v bindS_v okO_v pickO_t pickO_f
  Env.keep Env.get Env.set Env.del Env.dels Env.setO Env.opd Env.opds Env.opdO Env.parts intF aggF fillA splice cleanL AV.clean bndF fldF_one fldF_many toStrF boxF buildOF
  loadF_rptr loadF_rptrN atF_zero atF_succ blk_cons_zero blk_cons_succ loadF_p loadF_pN atB_some atBN_some retPost resL one
  okc_bool cells_bool notStr_bool okc_int cells_int notStr_int okc_str cells_str notStr_str okc_nil cells_nil notStr_nil okc_ptr cells_ptr notStr_ptr okc_rptr cells_rptr notStr_rptr okc_slice cells_slice notStr_slice 
  okc_list cells_list notStr_list okc_func cells_func notStr_func okc_nilFunc cells_nilFunc notStr_nilFunc okc_iface cells_iface notStr_iface okc_nilIface cells_nilIface notStr_nilIface okc_agg cells_agg notStr_agg 
  okc_tuple cells_tuple notStr_tuple lenF_slice lenF_list lenF_str faF_ptr faF_rptr idxSF_slice idxSF_list idxAF_ptr idxAF_rptr ixAF_many ixAF_one convF_int unF_neg unF_xor unF_not nilF_0nil nilF_0ptr nilF_0rptr nilF_1 
  nilF_2nil nilF_2f nilF_3nil nilF_3f binF_int binF_beq binF_bne binF_sadd binF_seq binF_sne sliceCells_list sliceCells_str sliceCells_slice cutC_some szAV_list szAV_str szAV_slice oneSl_list oneSl_slice slSF_sliceS 
  slSF_sliceN slSF_list slAF_rptr slAF_ptr appFF_list appOF_list appOF_sliceN appOF_sliceS storeF_ptr copyF_slice extF_tuple s2aF_slice s2aF_list nchkF_ptr nchkF_rptr nchkF_f mmF_int ofStrF_str mkSF_int eqAF_agg
attribute [local irreducible] W WX WR WO WS WSr WH WHA WG WC FSpec
attribute [local simp] lendAll
attribute [local congr] W_cg WR_cg WO_cg WS_cg WSr_cg WH_cg WHA_cg WG_cg WC_cg WX_cg
attribute [local simp] Env.has AV.wkr wkrL AV.wkr_refl wkrL_refl AV.ltI ltL leHW hasW Env.lt AV.ids idsL AV.sub subL AV.ren AV.frz frzS frzP frzE frzL Heap.frz Blk.frz Blk.ren renL rnS rnP hasR leR idsL_bv subL_bv
attribute [local simp] cleanL_take cleanL_drop ltL_take ltL_drop idsL_take idsL_drop subL_take subL_drop cleanL_append ltL_append idsL_append subL_append
attribute [local simp] renE mvN mvH
attribute [local simp] fwd backH putL bwd
attribute [local simp] u8i u8e List.idxOf_cons
attribute [local simp] hasRW leRW
attribute [local simp] WS_at_map WSr_at_map WS_at_q4 WSr_at_q4 WS_at_mx mx_set' WS_at_arr WSr_at_arr loadWP splice_full Int.natCast_inj
theorem fL_spec : FSpec Try.prog 49 [] [] (.agg (q4 Lq)) [] := by
  refine FSpec.of_W fL_low (by simp) ?_
  simp only [initEnv]
  simp
  exact fin_W (by simp [q4_Lq])
theorem fBelow2_spec (a b : Nat) (ha : a < 2 ^ 256) (hb : b < 2 ^ 256) : FSpec Try.prog 124 [.agg (q4 a), .agg (q4 b)] [] (.bool (decide (a < b))) [] := by
  refine FSpec.of_W fBelow2_low (by simp) ?_
  simp only [initEnv]
  simp
  refine W_loop (X := { i : Nat // i ≤ 4 ∧ a / 2 ^ (64 * i) = b / 2 ^ (64 * i) }) (fun i => [(2, .ptr 0 0), (3, .ptr 1 0), (5, .int .i64 ((i.1 : Int) - 1))]) (fun _ => [some ⟨q4 a, 48, true⟩, some ⟨q4 b, 48, true⟩]) (fun i => i.1) ⟨4, by omega, by omega⟩ retPost_le ?_ ?_
  · exact cut_w (by simp)
  · rintro ⟨i, hi, he⟩
    obtain _ | k := i
    · simp
      refine fin_W ?_
      simp at he
      simp [he]
    · have h4 : k < 4 := by omega
      simp [h4]
      refine ⟨by omega, ?_⟩
      refine WC_ndec (fun h => ?_) (fun h => ?_)
      · simp [h4]
        refine ⟨by omega, ?_⟩
        refine fin_W ?_
        simp
        rw [wd_cmp he (by omega)]
      · simp
        refine ⟨⟨k, by omega, wd_eq he (by omega)⟩, by simp, ?_⟩
        exact cut_w (by simp [wrap64s (n := (k : Int) - 1) (by omega) (by omega)])
theorem fBelow_spec (a : Nat) (ha : a < 2 ^ 256) : FSpec Try.prog 100 [.agg (q4 a)] [] (.bool (decide (a < Lq))) [] := by
  refine FSpec.of_W fBelow_low (by simp) ?_
  simp only [initEnv]
  simp
  refine WO_callP [] rfl rfl fL_spec (by simp) (by simp) ?_
  simp
  refine WO_callP [] rfl rfl (fBelow2_spec a Lq ha (by decide)) (by simp) (by simp) ?_
  simp
  exact fin_W (by simp)
theorem sub_wrap (a b i : Nat) (h : b ≤ a) : IntKind.u64.wrap (IntKind.u64.wrap ((wd a i : Int) - (wd b i : Int)) - (bor a b i : Int)) = (wd (a - b) i : Nat) := by
  rw [← wd_sub a b i h]
  have := wd_lt a i
  have := wd_lt b i
  have := bor_le a b i
  unfold IntKind.wrap
  simp [IntKind.signed, IntKind.bits]
  omega
theorem fRLess_spec (a b : Nat) (h : b ≤ a) : FSpec Try.prog 125 [.agg (q4 a), .agg (q4 b)] [] (.agg (q4 (a - b))) [] := by
  refine FSpec.of_W fRLess_low (by simp) ?_
  simp only [initEnv]
  simp
  refine W_loop (X := { i : Nat // i ≤ 4 }) (fun i => [(2, .ptr 0 0), (3, .ptr 1 0), (4, .ptr 2 0), (5, .int .u64 (bor a b i.1 : Nat)), (6, .int .i64 i.1)]) (fun i => [some ⟨mx i.1 (a - b) a, 48, true⟩, some ⟨q4 b, 48, true⟩, some ⟨q4 0, 48, true⟩]) (fun i => 4 - i.1) ⟨0, by omega⟩ retPost_le ?_ ?_
  · exact cut_w (by simp [bor_zero, mx_zero, q4_zero])
  · rintro ⟨i, hi⟩
    simp only
    simp
    refine WC_dec (fun hl => ?_) (fun hl => ?_)
    · have h4 : i < 4 := by omega
      have hb := bor_succ a b i
      have hle := bor_le a b i
      have hw := sub_wrap a b i h
      by_cases h1 : wd a i < wd b i
      · rw [if_pos (by omega)] at hb
        simp [h4, hl, h1, hw]
        refine ⟨by omega, ⟨i + 1, by omega⟩, by simp; omega, ?_⟩
        exact cut_w (by simp [← hb, wrap64s (n := (i : Int) + 1) (by omega) (by omega)])
      · by_cases h2 : wd a i = wd b i
        · by_cases h3 : bor a b i = 1
          · have h3' : ((bor a b i : Nat) : Int) = 1 := by omega
            rw [if_pos (by omega)] at hb
            rw [h2] at hw
            simp only [Int.sub_self, h3'] at hw
            simp [h4, hl, h1, h2, h3, h3', hw]
            refine ⟨by omega, ⟨i + 1, by omega⟩, by simp; omega, ?_⟩
            exact cut_w (by simp [← hb, wrap64s (n := (i : Int) + 1) (by omega) (by omega)])
          · have h3' : ¬ ((bor a b i : Nat) : Int) = 1 := by omega
            rw [if_neg (by omega)] at hb
            rw [h2] at hw
            simp only [Int.sub_self, h3'] at hw
            simp [h4, hl, h1, h2, h3, h3', hw]
            refine ⟨by omega, ⟨i + 1, by omega⟩, by simp; omega, ?_⟩
            exact cut_w (by simp [← hb, wrap64s (n := (i : Int) + 1) (by omega) (by omega)])
        · rw [if_neg (by omega)] at hb
          simp [h4, hl, h1, h2, hw]
          refine ⟨by omega, ⟨i + 1, by omega⟩, by simp; omega, ?_⟩
          exact cut_w (by simp [← hb, wrap64s (n := (i : Int) + 1) (by omega) (by omega)])
    · have h4 : i = 4 := by omega
      subst h4
      simp [mx_four]
      exact fin_W (by simp)
theorem dbl_wrap (n bit i : Nat) : IntKind.u64.wrap (IntKind.u64.wrap ((wd n i : Int) * 2) + (dca n bit i : Int)) = (wd (2 * n + bit) i : Nat) := by
  rw [wd_dbl]
  unfold IntKind.wrap
  simp [IntKind.signed, IntKind.bits]
theorem fDouble_spec (n : Nat) (bit : Nat) (hb : bit ≤ 1) (hn : 2 * n + bit < 2 ^ 256) : FSpec Try.prog 126 [.agg (q4 n), .int .i64 bit] [] (.agg (q4 (onceN (2 * n + bit)))) [] := by
  refine FSpec.of_W fDouble_low (by simp) ?_
  simp only [initEnv]
  simp
  refine W_loop (X := { i : Nat // i ≤ 4 }) (fun i => [(2, .ptr 0 0), (4, .ptr 1 0), (5, .int .u64 (dca n bit i.1 : Nat)), (6, .int .i64 i.1)]) (fun i => [some ⟨mx i.1 (2 * n + bit) n, 48, true⟩, some ⟨q4 0, 48, true⟩]) (fun i => 4 - i.1) ⟨0, by omega⟩ retPost_le ?_ ?_
  · have e : IntKind.u64.wrap (bit : Int) = bit := by rw [wrapu64]; omega
    exact cut_w (by simp [dca_zero, mx_zero, q4_zero, e])
  · rintro ⟨i, hi⟩
    simp only
    simp
    refine WC_dec (fun hl => ?_) (fun hl => ?_)
    · have h4 : i < 4 := by omega
      have e1 : (wd n i : Int).fdiv 9223372036854775808 = (dca n bit (i + 1) : Nat) := by
        rw [← dca_succ n bit i hb]; exact shr_nat (wd n i) 63
      simp [h4, hl, dbl_wrap, e1]
      refine ⟨by omega, ⟨i + 1, by omega⟩, by simp; omega, ?_⟩
      exact cut_w (by simp [IntKind.bits, e1, wrap64s (n := (i : Int) + 1) (by omega) (by omega)])
    · have h4 : i = 4 := by omega
      subst h4
      simp [mx_four]
      refine WO_callP [] rfl rfl fL_spec (by simp) (by simp) ?_
      simp
      refine WO_callP [] rfl rfl (fBelow2_spec _ Lq hn (by decide)) (by simp) (by simp) ?_
      simp
      refine WC_dec (fun h => ?_) (fun h => ?_)
      · simp
        exact fin_W (by simp [onceN, h])
      · simp
        refine WO_callP [] rfl rfl fL_spec (by simp) (by simp) ?_
        simp
        refine WO_callP [] rfl rfl (fRLess_spec _ Lq (by omega)) (by simp) (by simp) ?_
        simp
        exact fin_W (by simp [onceN, h])
theorem fDouble_mod (n bit : Nat) (hn : n < Lq) (hb : bit ≤ 1) : FSpec Try.prog 126 [.agg (q4 n), .int .i64 bit] [] (.agg (q4 ((2 * n + bit) % Lq))) [] := by
  have h := Lq_lt
  have e := fDouble_spec n bit hb (by omega)
  rw [onceN_mod (by omega)] at e
  exact e
theorem red_dbl (M n k : Nat) : (2 * (n / 2 ^ (k + 1) % M) + n / 2 ^ k % 2) % M = n / 2 ^ k % M := by
  rw [Nat.add_mod, Nat.mul_mod, Nat.mod_mod, ← Nat.mul_mod, ← Nat.add_mod, ← bit_step]
/-- The bits of bytes, the lowest first. -/
def bitsN (m n : Nat) : List Nat := (List.range m).map fun i => n / 2 ^ i % 2
theorem bitsN_succ (m n : Nat) : bitsN (m + 1) n = bitsN m n ++ [n / 2 ^ m % 2] := by simp [bitsN, List.range_succ]
theorem bitsN_len (m n : Nat) : (bitsN m n).length = m := by simp [bitsN]
theorem fBits_spec (b : List UInt8) (md : Md) (hb : b.length < 2 ^ 40) : FSpec Try.prog 127 [.list 1 md (b.map bv)] [] (.list 1 ⟨false, false, false⟩ ((bitsN (8 * b.length) (byN b)).map (nV .i64))) [] := by
  refine FSpec.of_W fBits_low (by simp) ?_
  simp only [initEnv]
  simp
  refine W_loop (X := { i : Nat // i ≤ 8 * b.length }) (fun i => [(0, .list 1 md (b.map bv)), (3, .slice 1 0 0 i.1 none), (4, .int .i64 i.1)]) (fun i => [some ⟨(bitsN i.1 (byN b)).map (nV .i64), 3, false⟩]) (fun i => 8 * b.length - i.1) ⟨0, by omega⟩ retPost_le ?_ ?_
  · refine cut_trans (cut_ghost 3 1 3 (by simp) rfl rfl) (cut_w ?_)
    simp [bitsN]
  · rintro ⟨k, hi⟩
    simp only
    simp
    have e0 : IntKind.i64.wrap (8 * (b.length : Int)) = ((8 * b.length : Nat) : Int) := by rw [wrap64s (by omega) (by omega)]; simp
    simp only [e0]
    refine WC_dec (fun h => ?_) (fun h => ?_)
    · obtain ⟨q, hq⟩ : ∃ q, q = k / 8 := ⟨_, rfl⟩
      obtain ⟨r, hr⟩ : ∃ r, r = k % 8 := ⟨_, rfl⟩
      have e1 : (k : Int).tdiv 8 = (q : Int) := by rw [hq]; rfl
      have e2 : (k : Int).tmod 8 = (r : Int) := by rw [hr]; rfl
      have e3 := byN_bitD b k
      rw [← hq, ← hr] at e3
      have e7 : q < b.length := by omega
      have e6 : b[q].toNat = (b.getD q 0).toNat := by simp [e7]
      have e5 : ((b[q].toNat : Nat) : Int).fdiv (2 ^ min r 8) = ((b[q].toNat / 2 ^ r : Nat) : Int) := by rw [show min r 8 = r by omega]; exact shr_nat _ _
      rw [← e6] at e3
      generalize b[q].toNat / 2 ^ r = z at *
      have e4 : (z : Int).tmod 2 = ((z % 2 : Nat) : Int) := rfl
      rw [e3] at e4
      obtain ⟨y, hy⟩ : ∃ y, y = byN b / 2 ^ k % 2 := ⟨_, rfl⟩
      rw [← hy] at e4
      simp [e1, e2, e7, e4, e5, IntKind.bits, bitsN_len, wrap64s (n := (q : Int)) (by omega) (by omega), wrap64s (n := (y : Int)) (by omega) (by omega)]
      refine ⟨by omega, ⟨k + 1, by omega⟩, by simp; omega, ?_⟩
      refine cut_rw [1] (by simp) rfl ?_ ?_
      · simp [wrap64s (n := (k : Int) + 1) (by omega) (by omega)]
      · simp [bitsN_succ, List.take_of_length_le, bitsN_len, nV, ← hy]
    · have : k = 8 * b.length := by omega
      subst this
      simp
      exact fin_sl 0 rfl (by simp [bitsN_len]) (by simp) (by simp)
theorem fRReduce_spec (b : List UInt8) (md : Md) (hb : b.length < 2 ^ 40) : FSpec Try.prog 97 [.list 1 md (b.map bv)] [] (.agg (q4 (byN b % Lq))) [] := by
  have hD := fDouble_mod
  have hpos : 1 < Lq := by decide
  generalize Lq = M at *
  refine FSpec.of_W fRReduce_low (by simp) ?_
  simp only [initEnv]
  simp
  refine WO_callP [] rfl rfl (fBits_spec b md hb) (by simp) (by simp) ?_
  simp [bitsN_len]
  refine W_loop (X := { k : Nat // k ≤ 8 * b.length }) (fun i => [(2, .ptr 0 0), (3, .list 1 ⟨false, false, false⟩ ((bitsN (8 * b.length) (byN b)).map (nV .i64))), (4, .ptr 1 0), (5, .int .i64 ((i.1 : Int) - 1))]) (fun i => [some ⟨q4 0, 48, true⟩, some ⟨q4 (byN b / 2 ^ i.1 % M), 48, true⟩]) (fun i => i.1) ⟨8 * b.length, by omega⟩ retPost_le ?_ ?_
  · have e := byN_top8 b
    have e2 : IntKind.i64.wrap (8 * (b.length : Int) - 1) = 8 * (b.length : Int) - 1 := by rw [wrap64s (by omega) (by omega)]
    exact cut_w (by simp [e, e2, q4_zero])
  · rintro ⟨i, hi⟩
    obtain _ | k := i
    · simp
      exact fin_W (by simp)
    · have hg : (bitsN (8 * b.length) (byN b))[k]? = some (byN b / 2 ^ k % 2) := by simp [bitsN, show k < 8 * b.length by omega]
      have hD1 := hD _ (byN b / 2 ^ k % 2) (Nat.mod_lt (byN b / 2 ^ (k + 1)) (Nat.lt_trans Nat.zero_lt_one hpos)) (by omega)
      rw [red_dbl] at hD1
      obtain ⟨y, hy⟩ : ∃ y, y = byN b / 2 ^ k % 2 := ⟨_, rfl⟩
      rw [← hy] at hg hD1
      simp [hg, bitsN_len, nV]
      refine ⟨by omega, ?_⟩
      refine WO_callP [] rfl rfl hD1 (by simp) (by simp) ?_
      simp
      refine ⟨⟨k, by omega⟩, by simp, ?_⟩
      exact cut_w (by simp [wrap64s (n := (k : Int) - 1) (by omega) (by omega)])
attribute [local simp] WS_at_map WSr_at_map WS_at_q4 WSr_at_q4 WS_at_mx mx_set' WS_at_arr WSr_at_arr loadWP splice_full Int.natCast_inj arr_zero32 fill_zero arr_set upd_fill
def decQ (n : Nat) : AV := if n < Lq then .tuple [.agg (q4 n), .int .i64 0] else .tuple [.agg (q4 0), .int .i64 7]
theorem fDecode_spec (l : List UInt8) (hl : l.length = 32) : FSpec Try.prog 98 [.agg (l.map bv)] [] (decQ (byN l)) [] := by
  have hO := fOrder_spec
  have hM2 : Lq < 2 ^ 256 := by decide
  simp only [decQ]
  generalize Lq = M at *
  refine FSpec.of_W fDecode_low (by simp) ?_
  simp only [initEnv]
  simp
  refine ⟨by omega, ?_⟩
  refine W_loop (X := { i : Nat // i ≤ 32 }) (fun i => [(2, .ptr 1 0), (4, .ptr 2 0), (7, .agg (l.map bv)), (8, .int .i64 i.1)]) (fun i => [some ⟨l.map bv, 23, true⟩, some ⟨q4 0, 62, true⟩, some ⟨q4 (byN (l.take i.1)), 62, true⟩]) (fun i => 32 - i.1) ⟨0, by omega⟩ retPost_le ?_ ?_
  · exact cut_w (by simp [hl, List.take_of_length_le, byN, q4_zero])
  · rintro ⟨i, hi⟩
    simp only
    simp
    refine WC_dec (fun h => ?_) (fun h => ?_)
    · have hil : i < l.length := by omega
      have hc : l[i]? = some l[i] := by simp
      obtain ⟨q, hq⟩ : ∃ q, q = i / 8 := ⟨_, rfl⟩
      obtain ⟨r, hr⟩ : ∃ r, r = i % 8 := ⟨_, rfl⟩
      obtain ⟨s, hs⟩ : ∃ s, s = 8 * r := ⟨_, rfl⟩
      have e1 : (i : Int).tdiv 8 = (q : Int) := by rw [hq]; rfl
      have e2 : (i : Int).tmod 8 = (r : Int) := by rw [hr]; rfl
      have e3 : IntKind.i64.wrap (8 * (r : Int)) = (s : Int) := by rw [wrap64s (by omega) (by omega)]; omega
      have hx := UInt8.toNat_lt l[i]
      have e4 := or_val (byN (l.take i)) i q s l[i].toNat hq (by omega) (byN_take32 l i hil) hx
      have e5 : (q : Int) < 4 := by omega
      have e6 : q < 4 := by omega
      have e7 := q4_put (byN (l.take i)) i l[i].toNat (byN_take32 l i hil) hx
      rw [← byN_take l i hil, ← hq, ← hr, ← hs] at e7
      have e8 : IntKind.u64.wrap ((l[i].toNat : Nat) : Int) = (l[i].toNat : Nat) := by rw [wrapu64]; congr 1; omega
      obtain ⟨v, hv⟩ : ∃ v, v = wd (byN (l.take i)) q + l[i].toNat * 2 ^ s := ⟨_, rfl⟩
      rw [← hv] at e4 e7
      simp [h, hc, e1, e2, e3, e4, e5, e6, e8, IntKind.bits, wrap64s (n := (q : Int)) (by omega) (by omega)]
      refine ⟨by omega, ⟨i + 1, by omega⟩, by simp; omega, ?_⟩
      exact cut_w (by simp [e7, wrap64s (n := (i : Int) + 1) (by omega) (by omega)])
    · have : i = 32 := by omega
      subst this
      have hlt : byN l < 2 ^ 256 := by have := byN_lt l; rw [hl] at this; exact this
      simp [List.take_of_length_le (show l.length ≤ 32 by omega)]
      refine WO_callP [] rfl rfl hO (by simp) (by simp) ?_
      simp
      refine WO_callP [] rfl rfl (fLess_spec (byN l) M hlt hM2) (by simp) (by simp) ?_
      simp
      refine WC_ndec (fun h => ?_) (fun h => ?_)
      · simp
        exact fin_W (by simp [h, q4_zero])
      · simp
        exact fin_W (by simp [h])
end Go.Proofs.Ythgibibeoapfbaa
