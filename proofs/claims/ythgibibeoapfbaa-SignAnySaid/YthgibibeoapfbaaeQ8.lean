/-
  Field.
-/
import Derived.Test.YthgibibeoapfbaaeQ4
set_option linter.unusedSimpArgs false
set_option linter.unnecessarySimpa false
set_option linter.unusedVariables false
set_option linter.unusedSectionVars false
namespace Go.Proofs.Ythgibibeoapfbaa
open Go Go.Fw
attribute [local simp] bv cleanL_bv toBytes_bv ltL_bv atF_drop WS_at_bytes W_nil W_skip W_seq W_reg W_draw W_drawP W_kill W_keep W_block W_blk W_exit W_ret WX_blk WX_c WX_lp WX_li W_li W_condT W_condF W_cond WC_true WC_false
  WR_nil WR_cons WR_o1 WR_o2 o1_chk o2_chk WR_grd WG_tt WG_ff WG_tf WG_ft WG_none WS_some WS_ok1 WSr_no WSr_some WSr_ok1 WSr_at_bytes WH_some WHA_some chkF_cons chkF_nil chkE_some chkE_ok1 chkE_at evF WO_mv WO_pick WO_bin WO_isNil WO_eqA WO_un WO_convI WO_toStr WO_ofStr WO_build WO_buildF WO_load WO_nilCheck WO_fieldAddr WO_field WO_idxA WO_idxS
  WO_ixA WO_slS WO_slA WO_len WO_lenK WO_appF WO_extract WO_s2a WO_iface WO_min WO_max WO_alloc WO_box WO_buildO WO_store WO_appO WO_copy WO_makeS WO_allocA WO_makeA WO_cvt cvtF_slice WO_look lookF_map alAF mkAF WO_func bind1_v bind2_v bindH_v bindH2_v bindS_v okO_v pickO_t pickO_f
  Env.keep Env.get Env.set Env.del Env.dels Env.setO Env.opd Env.opds Env.opdO Env.parts intF aggF fillA splice cleanL AV.clean bndF fldF_one fldF_many toStrF boxF buildOF
  loadF_rptr loadF_rptrN atF_zero atF_succ blk_cons_zero blk_cons_succ loadF_p loadF_pN atB_some atBN_some retPost resL one
  okc_bool cells_bool notStr_bool okc_int cells_int notStr_int okc_str cells_str notStr_str okc_nil cells_nil notStr_nil okc_ptr cells_ptr notStr_ptr okc_rptr cells_rptr notStr_rptr okc_slice cells_slice notStr_slice 
  okc_list cells_list notStr_list okc_func cells_func notStr_func okc_nilFunc cells_nilFunc notStr_nilFunc okc_iface cells_iface notStr_iface okc_nilIface cells_nilIface notStr_nilIface okc_agg cells_agg notStr_agg 
  okc_tuple cells_tuple notStr_tuple lenF_slice lenF_list lenF_str faF_ptr faF_rptr idxSF_slice idxSF_list idxAF_ptr idxAF_rptr ixAF_many ixAF_one convF_int unF_neg unF_xor unF_not nilF_0nil nilF_0ptr nilF_0rptr nilF_1 
  nilF_2nil nilF_2f nilF_3nil nilF_3f binF_int binF_beq binF_bne binF_sadd binF_seq binF_sne sliceCells_list sliceCells_str sliceCells_slice cutC_some szAV_list szAV_str szAV_slice oneSl_list oneSl_slice slSF_sliceS 
  slSF_sliceN slSF_list slAF_rptr slAF_ptr appFF_list appOF_list appOF_sliceN appOF_sliceS storeF_ptr copyF_slice extF_tuple s2aF_slice s2aF_list nchkF_ptr nchkF_rptr nchkF_f mmF_int ofStrF_str mkSF_int eqAF_agg
attribute [local irreducible] W WX WR WO WS WSr WH WHA WG WC FSpec
attribute [local simp] lendAll
attribute [local congr] W_cg WR_cg WO_cg WS_cg WSr_cg WH_cg WHA_cg WG_cg WC_cg WX_cg
attribute [local simp] Env.has AV.wkr wkrL AV.wkr_refl wkrL_refl AV.ltI ltL leHW hasW Env.lt AV.ids idsL AV.sub subL AV.ren AV.frz frzS frzP frzE frzL Heap.frz Blk.frz Blk.ren renL rnS rnP hasR leR idsL_bv subL_bv
attribute [local simp] cleanL_take cleanL_drop ltL_take ltL_drop idsL_take idsL_drop subL_take subL_drop cleanL_append ltL_append idsL_append subL_append
attribute [local simp] renE mvN mvH
attribute [local simp] fwd backH putL bwd
attribute [local simp] u8i u8e List.idxOf_cons
attribute [local simp] hasRW leRW
attribute [local simp] WS_at_map WSr_at_map WS_at_arr WSr_at_arr loadWP splice_full Int.natCast_inj arr_zero32 z17 z34 fill_zero arr_set arr_take
theorem fQFromBytes_spec (l : List UInt8) (hl : l.length = 32) : FSpec Try.prog 71 [.agg (l.map bv)] [] (.tuple [.agg (q17 (byN l % 2 ^ 255)), .bool (decide (2 ^ 255 ≤ byN l))]) [] := by
  obtain ⟨N, hN⟩ : ∃ N, N = byN l := ⟨_, rfl⟩
  have hbit : ∀ i, i < 256 → (l.getD (i / 8) 0).toNat / 2 ^ (i % 8) % 2 = N / 2 ^ i % 2 := fun i hi => by
    rw [hN]; exact byN_bitD l i
  have hhi : (128 ≤ (l.getD 31 0).toNat) = (2 ^ 255 ≤ N) := by
    have h1 : byN l / 256 ^ 31 = byN (l.drop 31) := byN_div l 31
    have h2 : l.drop 31 = [l.getD 31 0] := by
      rw [List.drop_eq_getElem_cons (by omega), List.drop_of_length_le (by omega), List.getD_eq_getElem?_getD, List.getElem?_eq_getElem (by omega)]
      rfl
    rw [h2, ← hN] at h1
    have h3 : byN [l.getD 31 0] = (l.getD 31 0).toNat := by simp [byN]
    rw [h3] at h1
    rw [← h1]
    apply propext
    rw [show (2 : Nat) ^ 255 = 128 * 256 ^ 31 from rfl, Nat.le_div_iff_mul_le (by decide)]
  rw [← hN]
  obtain ⟨M, hM⟩ : ∃ M, M = N % 2 ^ 255 := ⟨_, rfl⟩
  have hd : decide (2 ^ 255 ≤ N) = decide (128 ≤ (l.getD 31 0).toNat) := by simp only [hhi]
  obtain ⟨z, hz⟩ : ∃ z, z = l.getD 31 0 := ⟨_, rfl⟩
  have egz : l[31]? = some z := by
    rw [hz, List.getElem?_eq_getElem (by omega), List.getD_eq_getElem?_getD, List.getElem?_eq_getElem (by omega)]; rfl
  rw [← hM, hd, ← hz]
  clear hd hhi
  refine FSpec.of_W fQFromBytes_low (by simp) ?_
  simp only [initEnv]
  simp
  refine W_loop (X := { i : Nat // i ≤ 255 }) (fun i => [(1, .ptr 0 0), (2, .ptr 1 0), (4, .ptr 2 0), (5, .int .i64 i.1)])
    (fun i => [some ⟨l.map bv, 23, true⟩, some ⟨arr .i64 17 fun _ => 0, 55, true⟩, some ⟨arr .i64 17 (dig (N % 2 ^ i.1)), 55, true⟩]) (fun i => 255 - i.1) ⟨0, by omega⟩ retPost_le ?_ ?_
  · have e0 : arr .i64 17 (dig (N % 1)) = arr .i64 17 fun _ => 0 := arr_ext fun k _ => by simp [dig, Nat.mod_one]
    exact cut_w (by simp [e0])
  · rintro ⟨i, hi⟩
    simp only
    simp
    refine WC_dec (fun h => ?_) (fun h => ?_)
    · obtain ⟨q, hq⟩ : ∃ q, q = i / 8 := ⟨_, rfl⟩
      obtain ⟨r, hr⟩ : ∃ r, r = i % 8 := ⟨_, rfl⟩
      have e1 : (i : Int).tdiv 8 = (q : Int) := by rw [hq]; rfl
      have e2 : (i : Int).tmod 8 = (r : Int) := by rw [hr]; rfl
      have e3 : IntKind.i64.wrap (q : Int) = q := wrap64 (by omega) (by omega)
      have e4 := hbit i (by omega)
      rw [← hq, ← hr] at e4
      have eg : l[q]? = some (l.getD q 0) := by
        rw [List.getElem?_eq_getElem (by omega), List.getD_eq_getElem?_getD, List.getElem?_eq_getElem (by omega)]; rfl
      obtain ⟨x, hx⟩ : ∃ x, x = l.getD q 0 := ⟨_, rfl⟩
      rw [← hx] at e4 eg
      have hx8 := x.toNat_lt
      have e5 : ((x.toNat : Nat) : Int).fdiv (2 ^ min r 8) = ((x.toNat / 2 ^ r : Nat) : Int) := by rw [show min r 8 = r by omega]; exact shr_nat _ _
      obtain ⟨y, hy⟩ : ∃ y, y = N / 2 ^ i % 2 := ⟨_, rfl⟩
      have e6 : ((x.toNat / 2 ^ r : Nat) : Int).tmod 2 = (y : Nat) := by rw [hy, ← e4]; rfl
      obtain ⟨u, hu⟩ : ∃ u, u = x.toNat / 2 ^ r := ⟨_, rfl⟩
      rw [← hu] at e5 e6
      have w1 : IntKind.i64.wrap ((i : Int) + 1) = (i : Int) + 1 := wrap64s (by omega) (by omega)
      have hmb := mod_bit N i
      rw [← hy] at hmb
      simp [e1, e2, e3, e5, e6, eg, IntKind.bits]
      repeat (refine ⟨by omega, ?_⟩)
      refine WC_dec (fun hy1 => ?_) (fun hy1 => ?_)
      · have hy2 : y = 1 := by omega
        rw [hy2, Nat.one_mul] at hmb
        have hput := dig_put (m := N % 2 ^ i) (i := i) (Nat.mod_lt _ (Nat.two_pow_pos _))
        rw [← hmb] at hput
        obtain ⟨s, hs⟩ : ∃ s, s = i / 15 := ⟨_, rfl⟩
        obtain ⟨t, ht⟩ : ∃ t, t = i % 15 := ⟨_, rfl⟩
        rw [← hs, ← ht] at hput
        have f1 : (i : Int).tdiv 15 = (s : Int) := by rw [hs]; rfl
        have f2 : (i : Int).tmod 15 = (t : Int) := by rw [ht]; rfl
        have f3 : IntKind.i64.wrap (s : Int) = s := wrap64 (by omega) (by omega)
        have hdl := dig_lt (N % 2 ^ i) s
        have htp : 2 ^ t ≤ 2 ^ 14 := Nat.pow_le_pow_right (by decide) (by omega)
        obtain ⟨p, hp⟩ : ∃ p, p = 2 ^ t := ⟨_, rfl⟩
        rw [← hp] at hput htp
        have f4 : IntKind.i64.wrap (2 ^ min t 64) = (p : Nat) := by
          rw [show min t 64 = t by omega, show (2 : Int) ^ t = ((2 ^ t : Nat) : Int) by simp, ← hp]; exact wrap64 (by omega) (by omega)
        obtain ⟨w, hw⟩ : ∃ w, w = dig (N % 2 ^ i) s := ⟨_, rfl⟩
        rw [← hw] at hput hdl
        obtain ⟨v, hv⟩ : ∃ v, v = w + p := ⟨_, rfl⟩
        rw [← hv] at hput
        have f5 : IntKind.i64.wrap ((w : Int) + p) = (v : Nat) := by rw [hv, ← Int.natCast_add]; exact wrap64 (by omega) (by omega)
        simp [f1, f2, f3, f4, ← hw, f5, hput, IntKind.bits]
        repeat (refine ⟨by omega, ?_⟩)
        exact ⟨⟨i + 1, by omega⟩, by simp; omega, cut_w (by simp [w1])⟩
      · have hy2 : y = 0 := by omega
        rw [hy2, Nat.zero_mul, Nat.add_zero] at hmb
        simp
        refine ⟨⟨i + 1, by omega⟩, by simp; omega, cut_w (by simp [w1, hmb])⟩
    · have hMi : N % 2 ^ i = M := by rw [hM, show i = 255 by omega]
      rw [hMi]
      simp [egz]
      refine ⟨by omega, ?_⟩
      exact fin_W (by simp [q17]; omega)
theorem fQBytes_spec (n : Nat) (hn : n < 2 ^ 255) : FSpec Try.prog 87 [.agg (q17 n)] [] (.agg ((byL 32 n).map bv)) [] := by
  have hbit := dig_bit n
  rw [← byL_byt]
  refine FSpec.of_W fQBytes_low (by simp) ?_
  simp only [initEnv]
  simp [q17]
  refine W_loop (X := { i : Nat // i ≤ 255 }) (fun i => [(1, .ptr 0 0), (2, .ptr 1 0), (3, .ptr 2 0), (4, .int .i64 i.1)])
    (fun i => [some ⟨arr .i64 17 (dig n), 55, true⟩, some ⟨arr .u8 32 fun _ => 0, 23, true⟩, some ⟨arr .u8 32 (byt (n % 2 ^ i.1)), 23, true⟩]) (fun i => 255 - i.1) ⟨0, by omega⟩ retPost_le ?_ ?_
  · have e0 : arr .u8 32 (byt (n % 1)) = arr .u8 32 fun _ => 0 := arr_ext fun k _ => by simp [byt, Nat.mod_one]
    exact cut_w (by simp [e0])
  · rintro ⟨i, hi⟩
    simp only
    simp
    refine WC_dec (fun h => ?_) (fun h => ?_)
    · obtain ⟨q, hq⟩ : ∃ q, q = i / 15 := ⟨_, rfl⟩
      obtain ⟨r, hr⟩ : ∃ r, r = i % 15 := ⟨_, rfl⟩
      have e1 : (i : Int).tdiv 15 = (q : Int) := by rw [hq]; rfl
      have e2 : (i : Int).tmod 15 = (r : Int) := by rw [hr]; rfl
      have e3 : IntKind.i64.wrap (q : Int) = q := wrap64 (by omega) (by omega)
      have e4 := hbit i
      rw [← hq, ← hr] at e4
      have hdl := dig_lt n q
      have e5 : ((dig n q : Nat) : Int).fdiv (2 ^ min r 64) = ((dig n q / 2 ^ r : Nat) : Int) := by rw [show min r 64 = r by omega]; exact shr_nat _ _
      obtain ⟨y, hy⟩ : ∃ y, y = n / 2 ^ i % 2 := ⟨_, rfl⟩
      have e6 : ((dig n q / 2 ^ r : Nat) : Int).tmod 2 = (y : Nat) := by rw [hy, ← e4]; rfl
      obtain ⟨u, hu⟩ : ∃ u, u = dig n q / 2 ^ r := ⟨_, rfl⟩
      rw [← hu] at e5 e6
      have w1 : IntKind.i64.wrap ((i : Int) + 1) = (i : Int) + 1 := wrap64s (by omega) (by omega)
      have hmb := mod_bit n i
      rw [← hy] at hmb
      simp [e1, e2, e3, e5, e6, IntKind.bits]
      repeat (refine ⟨by omega, ?_⟩)
      refine WC_dec (fun hy1 => ?_) (fun hy1 => ?_)
      · have hy2 : y = 1 := by omega
        rw [hy2, Nat.one_mul] at hmb
        have hput := byt_put (m := n % 2 ^ i) (i := i) (Nat.mod_lt _ (Nat.two_pow_pos _))
        rw [← hmb] at hput
        have hlt : byt (n % 2 ^ i) (i / 8) < 2 ^ (i % 8) := by
          unfold byt
          refine Nat.lt_of_le_of_lt (Nat.mod_le _ _) ?_
          rw [Nat.div_lt_iff_lt_mul (Nat.pow_pos (by decide)), show (256 : Nat) = 2 ^ 8 from rfl, ← Nat.pow_mul, ← Nat.pow_add, show i % 8 + 8 * (i / 8) = i by omega]
          exact Nat.mod_lt _ (Nat.two_pow_pos _)
        obtain ⟨s, hs⟩ : ∃ s, s = i / 8 := ⟨_, rfl⟩
        obtain ⟨t, ht⟩ : ∃ t, t = i % 8 := ⟨_, rfl⟩
        rw [← hs, ← ht] at hput hlt
        have f1 : (i : Int).tdiv 8 = (s : Int) := by rw [hs]; rfl
        have f2 : (i : Int).tmod 8 = (t : Int) := by rw [ht]; rfl
        have f3 : IntKind.i64.wrap (s : Int) = s := wrap64 (by omega) (by omega)
        have htp : 2 ^ t ≤ 2 ^ 7 := Nat.pow_le_pow_right (by decide) (by omega)
        obtain ⟨p, hp⟩ : ∃ p, p = 2 ^ t := ⟨_, rfl⟩
        rw [← hp] at hput htp hlt
        have f4 : IntKind.u8.wrap (2 ^ min t 8) = (p : Nat) := by
          rw [show min t 8 = t by omega, show (2 : Int) ^ t = ((2 ^ t : Nat) : Int) by simp, ← hp, wrapu8, Nat.mod_eq_of_lt (by omega)]
        obtain ⟨w, hw⟩ : ∃ w, w = byt (n % 2 ^ i) s := ⟨_, rfl⟩
        rw [← hw] at hput hlt
        obtain ⟨v, hv⟩ : ∃ v, v = w + p := ⟨_, rfl⟩
        rw [← hv] at hput
        have f5 : IntKind.u8.wrap ((w : Int) + p) = (v : Nat) := by rw [hv, ← Int.natCast_add, wrapu8, Nat.mod_eq_of_lt (by omega)]
        simp [f1, f2, f3, f4, ← hw, f5, hput, IntKind.bits]
        repeat (refine ⟨by omega, ?_⟩)
        exact ⟨⟨i + 1, by omega⟩, by simp; omega, cut_w (by simp [w1])⟩
      · have hy2 : y = 0 := by omega
        rw [hy2, Nat.zero_mul, Nat.add_zero] at hmb
        simp
        refine ⟨⟨i + 1, by omega⟩, by simp; omega, cut_w (by simp [w1, hmb])⟩
    · have hni : n % 2 ^ i = n := by rw [show i = 255 by omega]; exact Nat.mod_eq_of_lt hn
      rw [hni]
      simp
      exact fin_W (by simp)
theorem limb_step (n j i : Nat) (h : j = i / 8) : wd n j / 256 ^ (i + 1 - 8 * j) * 256 + byt n i = wd n j / 256 ^ (i - 8 * j) := by
  have e1 : byt n i = wd n j / 256 ^ (i - 8 * j) % 256 := by
    have := wd_byte n i
    rw [← h, show 8 * (i % 8) = 8 * (i - 8 * j) by omega, Nat.pow_mul] at this
    exact this.symm
  rw [e1, show i + 1 - 8 * j = (i - 8 * j) + 1 by omega, Nat.pow_succ, ← Nat.div_div_eq_div_mul]
  omega
theorem fQLimbs_spec (n : Nat) (hn : n < 2 ^ 255) : FSpec Try.prog 119 [.agg (q17 n)] [] (.agg (q4 n)) [] := by
  have hB := fQBytes_spec n hn
  rw [← byL_byt] at hB
  rw [q4_arr]
  refine FSpec.of_W fQLimbs_low (by simp) ?_
  simp only [initEnv]
  simp
  refine WO_callP [] rfl rfl hB (by simp) (by simp) ?_
  simp
  have hz : ∀ j, j < 4 → wd n j / 256 ^ (32 - 8 * j) = 0 := fun j hj => by
    refine Nat.div_eq_of_lt (Nat.lt_of_lt_of_le (wd_lt n j) ?_)
    rw [show (256 : Nat) = 2 ^ 8 from rfl, ← Nat.pow_mul]
    exact Nat.pow_le_pow_right (by decide) (by omega)
  have z4 : [AV.int .u64 0, .int .u64 0, .int .u64 0, .int .u64 0] = arr .u64 4 fun _ => 0 := rfl
  rw [z4]
  refine W_loop (X := { i : Nat // i ≤ 32 }) (fun i => [(2, .ptr 1 0), (3, .ptr 2 0), (4, .ptr 3 0), (5, .int .i64 ((i.1 : Int) - 1))])
    (fun i => [some ⟨q17 n, 55, true⟩, some ⟨arr .u64 4 fun _ => 0, 48, true⟩, some ⟨arr .u64 4 (fun j => wd n j / 256 ^ (i.1 - 8 * j)), 48, true⟩, some ⟨arr .u8 32 (byt n), 23, true⟩]) (fun i => i.1) ⟨32, by omega⟩ retPost_le ?_ ?_
  · have e0 : arr .u64 4 (fun j => wd n j / 256 ^ (32 - 8 * j)) = arr .u64 4 fun _ => 0 := arr_ext fun j hj => hz j hj
    exact cut_w (by simp [e0])
  · rintro ⟨i, hi⟩
    obtain _ | k := i
    · have e1 : arr .u64 4 (fun j => wd n j / 256 ^ (0 - 8 * j)) = arr .u64 4 (wd n) := arr_ext fun j hj => by rw [Nat.zero_sub, Nat.pow_zero, Nat.div_one]
      simp [e1]
      exact fin_W (by simp [e1])
    · obtain ⟨j, hj⟩ : ∃ j, j = k / 8 := ⟨_, rfl⟩
      have e1 : (k : Int).tdiv 8 = (j : Int) := by rw [hj]; rfl
      have e2 : IntKind.i64.wrap (j : Int) = j := wrap64 (by omega) (by omega)
      have e3 := limb_step n j k hj
      have hwl := wd_lt n j
      obtain ⟨a, ha⟩ : ∃ a, a = wd n j / 256 ^ (k + 1 - 8 * j) := ⟨_, rfl⟩
      obtain ⟨b, hb⟩ : ∃ b, b = byt n k := ⟨_, rfl⟩
      obtain ⟨c, hc⟩ : ∃ c, c = wd n j / 256 ^ (k - 8 * j) := ⟨_, rfl⟩
      rw [← ha, ← hb, ← hc] at e3
      have hcl : c < 2 ^ 64 := by rw [hc]; exact Nat.lt_of_le_of_lt (Nat.div_le_self _ _) hwl
      have e4 : IntKind.u64.wrap ((a : Int) * 256) = ((a * 256 : Nat) : Int) := by rw [show (a : Int) * 256 = ((a * 256 : Nat) : Int) by omega, wrapu64, Nat.mod_eq_of_lt (by omega)]
      have e5 : IntKind.u64.wrap (b : Int) = b := by rw [wrapu64, Nat.mod_eq_of_lt (by omega)]
      have e6 : IntKind.u64.wrap (((a * 256 : Nat) : Int) + b) = (c : Nat) := by rw [← Int.natCast_add, e3, wrapu64, Nat.mod_eq_of_lt hcl]
      have e7 : upd (fun j => wd n j / 256 ^ (k + 1 - 8 * j)) j c = fun j => wd n j / 256 ^ (k - 8 * j) := by
        funext m
        unfold upd
        split
        · rename_i q; rw [q]; exact hc
        · rename_i q
          show wd n m / 256 ^ (k + 1 - 8 * m) = wd n m / 256 ^ (k - 8 * m)
          by_cases hm : m < j
          · have l1 : wd n m / 256 ^ (k + 1 - 8 * m) = 0 := by
              refine Nat.div_eq_of_lt (Nat.lt_of_lt_of_le (wd_lt n m) ?_)
              rw [show (256 : Nat) = 2 ^ 8 from rfl, ← Nat.pow_mul]
              exact Nat.pow_le_pow_right (by decide) (by omega)
            have l2 : wd n m / 256 ^ (k - 8 * m) = 0 := by
              refine Nat.div_eq_of_lt (Nat.lt_of_lt_of_le (wd_lt n m) ?_)
              rw [show (256 : Nat) = 2 ^ 8 from rfl, ← Nat.pow_mul]
              exact Nat.pow_le_pow_right (by decide) (by omega)
            rw [l1, l2]
          · rw [show k + 1 - 8 * m = 0 by omega, show k - 8 * m = 0 by omega]
      simp only [Int.natCast_mul, Int.cast_ofNat_Int] at e4 e6
      have w1 : IntKind.i64.wrap ((k : Int) - 1) = (k : Int) - 1 := wrap64s (by omega) (by omega)
      simp [e1, e2, ← ha, ← hb, e4, e5, e6, e7]
      repeat (refine ⟨by omega, ?_⟩)
      exact ⟨⟨k, by omega⟩, by simp, cut_w (by simp [w1])⟩
end Go.Proofs.Ythgibibeoapfbaa
