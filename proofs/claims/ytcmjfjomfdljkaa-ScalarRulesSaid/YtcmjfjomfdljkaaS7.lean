/-
  Numbers below the order: the contracts of the statements.
-/
import Derived.Test.YtcmjfjomfdljkaaS6
set_option linter.unusedSimpArgs false
set_option linter.unusedVariables false
set_option linter.unusedSectionVars false
namespace Go.Proofs.Ytcmjfjomfdljkaa
open Go Go.Fw
attribute [local simp] bv cleanL_bv toBytes_bv ltL_bv atF_drop WS_at_bytes W_nil W_skip W_seq W_reg W_draw W_drawP W_kill W_keep W_block W_blk W_exit W_ret WX_blk WX_c WX_lp WX_li W_li W_condT W_condF W_cond WC_true WC_false
  WR_nil WR_cons WR_o1 WR_o2 o1_chk o2_chk WR_grd WG_tt WG_ff WG_tf WG_ft WG_none WS_some WS_ok1 WSr_no WSr_some WSr_ok1 WSr_at_bytes WH_some WHA_some chkF_cons chkF_nil chkE_some chkE_ok1 chkE_at evF WO_mv WO_pick WO_bin WO_isNil WO_eqA WO_un WO_convI WO_toStr WO_ofStr WO_build WO_buildF WO_load WO_nilCheck WO_fieldAddr WO_field WO_idxA WO_idxS
  WO_ixA WO_slS WO_slA WO_len WO_lenK WO_appF WO_extract WO_s2a WO_iface WO_min WO_max WO_alloc WO_box WO_buildO WO_store WO_appO WO_copy WO_makeS WO_allocA WO_makeA WO_cvt cvtF_slice WO_look lookF_map alAF mkAF WO_func bind1_v bind2_v bindH_v bindH2_v bindS_v okO_v pickO_t pickO_f
  Env.keep Env.get Env.set Env.del Env.dels Env.setO Env.opd Env.opds Env.opdO Env.parts intF aggF fillA splice cleanL AV.clean bndF fldF_one fldF_many toStrF boxF buildOF
  loadF_rptr loadF_rptrN atF_zero atF_succ blk_cons_zero blk_cons_succ loadF_p loadF_pN atB_some atBN_some retPost resL one
  okc_bool cells_bool notStr_bool okc_int cells_int notStr_int okc_str cells_str notStr_str okc_nil cells_nil notStr_nil okc_ptr cells_ptr notStr_ptr okc_rptr cells_rptr notStr_rptr okc_slice cells_slice notStr_slice 
  okc_list cells_list notStr_list okc_func cells_func notStr_func okc_nilFunc cells_nilFunc notStr_nilFunc okc_iface cells_iface notStr_iface okc_nilIface cells_nilIface notStr_nilIface okc_agg cells_agg notStr_agg 
  okc_tuple cells_tuple notStr_tuple lenF_slice lenF_list lenF_str faF_ptr faF_rptr idxSF_slice idxSF_list idxAF_ptr idxAF_rptr ixAF_many ixAF_one convF_int unF_neg unF_xor unF_not nilF_0nil nilF_0ptr nilF_0rptr nilF_1 
  nilF_2nil nilF_2f nilF_3nil nilF_3f binF_int binF_beq binF_bne binF_sadd binF_seq binF_sne sliceCells_list sliceCells_str sliceCells_slice cutC_some szAV_list szAV_str szAV_slice oneSl_list oneSl_slice slSF_sliceS 
  slSF_sliceN slSF_list slAF_rptr slAF_ptr appFF_list appOF_list appOF_sliceN appOF_sliceS storeF_ptr copyF_slice extF_tuple s2aF_slice s2aF_list nchkF_ptr nchkF_rptr nchkF_f mmF_int ofStrF_str mkSF_int eqAF_agg
attribute [local irreducible] W WX WR WO WS WSr WH WHA WG WC FSpec
attribute [local simp] lendAll
attribute [local congr] W_cg WR_cg WO_cg WS_cg WSr_cg WH_cg WHA_cg WG_cg WC_cg WX_cg
attribute [local simp] Env.has AV.wkr wkrL AV.wkr_refl wkrL_refl AV.ltI ltL leHW hasW Env.lt AV.ids idsL AV.sub subL AV.ren AV.frz frzS frzP frzE frzL Heap.frz Blk.frz Blk.ren renL rnS rnP hasR leR idsL_bv subL_bv
attribute [local simp] cleanL_take cleanL_drop ltL_take ltL_drop idsL_take idsL_drop subL_take subL_drop cleanL_append ltL_append idsL_append subL_append
attribute [local simp] renE mvN mvH
attribute [local simp] fwd backH putL bwd
attribute [local simp] u8i u8e List.idxOf_cons
attribute [local simp] hasRW leRW
attribute [local simp] WS_at_map WSr_at_map WS_at_q4 WSr_at_q4 WS_at_mx mx_set' WS_at_arr WSr_at_arr loadWP splice_full Int.natCast_inj arr_zero32 fill_zero arr_set upd_fill z4
theorem hasK32 {l : List UInt8} (h : l.length = 32) : hasK [.u8, .u8, .u8, .u8, .u8, .u8, .u8, .u8, .u8, .u8, .u8, .u8, .u8, .u8, .u8, .u8, .u8, .u8, .u8, .u8, .u8, .u8, .u8, .u8, .u8, .u8, .u8, .u8, .u8, .u8, .u8, .u8] (l.map bv) = true := hasK_bytes l h
/-- What the statement has of a number, when so many bytes are left. -/
def sbN (n k : Nat) : Nat → Nat := fun j => wd n j / 256 ^ (k - 8 * j)
theorem sbN_top (n : Nat) : arr .u64 4 (sbN n 32) = q4 0 := by
  rw [q4_arr]
  refine arr_ext fun j hj => ?_
  have e : 256 ^ 8 ≤ 256 ^ (32 - 8 * j) := Nat.pow_le_pow_right (by decide) (by omega)
  have h := wd_lt n j
  simp only [sbN]
  rw [Nat.div_eq_of_lt (Nat.lt_of_lt_of_le h e)]
  simp [wd]
theorem sbN_zero (n : Nat) : arr .u64 4 (sbN n 0) = q4 n := by
  rw [q4_arr]
  refine arr_ext fun j hj => ?_
  simp [sbN]
theorem sbN_step (n k : Nat) : upd (sbN n (k + 1)) (k / 8) (wd n (k / 8) / 256 ^ (k % 8)) = sbN n k := by
  funext j
  simp only [upd, sbN]
  by_cases h : j = k / 8
  · subst h
    rw [if_pos rfl]; congr 2; omega
  · rw [if_neg h]
    by_cases h2 : k < 8 * j
    · rw [show k + 1 - 8 * j = 0 by omega, show k - 8 * j = 0 by omega]
    · have hl := wd_lt n j
      have e1 : 256 ^ 8 ≤ 256 ^ (k - 8 * j) := Nat.pow_le_pow_right (by decide) (by omega)
      have e2 : 256 ^ 8 ≤ 256 ^ (k + 1 - 8 * j) := Nat.pow_le_pow_right (by decide) (by omega)
      rw [Nat.div_eq_of_lt (Nat.lt_of_lt_of_le hl e1), Nat.div_eq_of_lt (Nat.lt_of_lt_of_le hl e2)]
theorem sbN_val (l : List UInt8) (k : Nat) (h : k < l.length) : bitI .or .u64 (IntKind.u64.wrap ((sbN (byN l) (k + 1) (k / 8) : Nat) * 256)) (l[k].toNat : Nat) = (wd (byN l) (k / 8) / 256 ^ (k % 8) : Nat) := by
  have hx := UInt8.toNat_lt l[k]
  have hw := wd_lt (byN l) (k / 8)
  have e0 : sbN (byN l) (k + 1) (k / 8) = wd (byN l) (k / 8) / 256 ^ (k % 8) / 256 := by
    simp only [sbN]
    rw [show k + 1 - 8 * (k / 8) = k % 8 + 1 by omega, Nat.pow_succ, Nat.div_div_eq_div_mul]
  have e1 : wd (byN l) (k / 8) / 256 ^ (k % 8) % 256 = l[k].toNat := by
    rw [← byN_byte l k h, ← wd_byte (byN l) k, show (256 : Nat) ^ (k % 8) = 2 ^ (8 * (k % 8)) by rw [Nat.pow_mul]]
  have e2 : wd (byN l) (k / 8) / 256 ^ (k % 8) < 2 ^ 64 := Nat.lt_of_le_of_lt (Nat.div_le_self _ _) hw
  rw [e0]
  generalize wd (byN l) (k / 8) / 256 ^ (k % 8) = z at *
  rw [show (((z / 256 : Nat) : Int) * 256) = ((z / 256 * 256 : Nat) : Int) by simp, wrapu64, Nat.mod_eq_of_lt (by omega), bitI_or rfl (show z / 256 * 256 < 2 ^ 64 by omega) (show l[k].toNat < 2 ^ 64 by omega)]
  have e3 := shl_or l[k].toNat (z / 256) 8 hx
  rw [show (2 : Nat) ^ 8 = 256 from rfl] at e3
  rw [e3]; omega
theorem fSBytes_spec (l : List UInt8) (hl : l.length = 32) (x : List UInt8) (md : Md) (hx : x.length < 2 ^ 47) : FSpec Try.prog 3 [.agg (l.map bv), .list 1 md (x.map bv)] [] (.bool true) [] := by
  have hR := fReduce_spec
  have hRR := fRReduce_spec
  have hB := fBelow_spec
  have hD := fDecode_spec l hl
  simp only [decQ] at hD
  generalize Lq = M at *
  have ht : (l.map bv).take 32 = l.map bv := List.take_of_length_le (by simp [hl])
  have hlt : byN l < 2 ^ 256 := by have := byN_lt l; rw [hl] at this; exact this
  refine FSpec.of_W fSBytes_low (by simp) ?_
  simp only [initEnv]
  simp
  refine WO_callP [] rfl rfl fLives6_spec (by simp) (by simp) ?_
  by_cases h0 : 200 < (x.length : Int)
  · simp [h0]
    refine WO_callP [] rfl rfl fLives6_spec (by simp) (by simp) ?_
    simp
    exact fin_W (by simp)
  simp [h0]
  refine W_loop (X := { k : Nat // k ≤ 32 }) (fun i => [(1, .list 1 md (x.map bv)), (2, .ptr 0 0), (5, .ptr 1 0), (6, .int .i64 ((i.1 : Int) - 1))]) (fun i => [some ⟨l.map bv, 22, true⟩, some ⟨arr .u64 4 (sbN (byN l) i.1), 26, true⟩]) (fun i => i.1) ⟨32, by omega⟩ retPost_le ?_ ?_
  · exact cut_w (by simp [sbN_top])
  · rintro ⟨i, hi⟩
    obtain _ | k := i
    · simp [sbN_zero, hl, ht]
      by_cases hM : byN l < M
      · rw [if_pos hM] at hD
        have hE := fEncode_spec (byN l)
        rw [show byL 32 (byN l) = l by rw [← hl]; exact byL_byN l] at hE
        refine WO_callP [] rfl rfl hD (by simp) (by simp) ?_
        simp
        refine WO_callP [] rfl rfl (hR x md (by omega)) (by simp) (by simp) ?_
        simp
        refine WO_callP [] rfl rfl (hRR x md (by omega)) (by simp) (by simp) ?_
        simp
        refine WO_callP [] rfl rfl (hB _ hlt) (by simp) (by simp) ?_
        simp [hM, hl, ht]
        refine WO_callP [] rfl rfl hE (by simp) (by simp [hl, ht]) ?_
        simp [hasK32 hl]
        exact fin_W (by simp)
      · rw [if_neg hM] at hD
        refine WO_callP [] rfl rfl hD (by simp) (by simp) ?_
        simp
        refine WO_callP [] rfl rfl (hR x md (by omega)) (by simp) (by simp) ?_
        simp
        refine WO_callP [] rfl rfl (hRR x md (by omega)) (by simp) (by simp) ?_
        simp
        refine WO_callP [] rfl rfl (hB _ hlt) (by simp) (by simp) ?_
        simp [hM]
        exact fin_W (by simp)
    · have hk : k < l.length := by omega
      have hc : l[k]? = some l[k] := by simp
      obtain ⟨q, hq⟩ : ∃ q, q = k / 8 := ⟨_, rfl⟩
      have e1 : (k : Int).tdiv 8 = (q : Int) := by rw [hq]; rfl
      have e2 := sbN_val l k hk
      have e3 := sbN_step (byN l) k
      rw [← hq] at e2 e3
      have e4 : IntKind.u64.wrap ((l[k].toNat : Nat) : Int) = (l[k].toNat : Nat) := by rw [wrapu64]; have := UInt8.toNat_lt l[k]; congr 1; omega
      obtain ⟨v, hv⟩ : ∃ v, v = wd (byN l) q / 256 ^ (k % 8) := ⟨_, rfl⟩
      rw [← hv] at e2 e3
      have e5 : (q : Int) < 4 := by omega
      have e6 : q < 4 := by omega
      simp [e1, hc, e2, e4, e5, e6, hk, IntKind.bits, wrap64s (n := (q : Int)) (by omega) (by omega)]
      refine ⟨by omega, by omega, ⟨k, by omega⟩, by simp, ?_⟩
      exact cut_w (by simp [e3, wrap64s (n := (k : Int) - 1) (by omega) (by omega)])
theorem fSSums_spec (a b : Nat) (ha : a < 2 ^ 256) (hb : b < 2 ^ 256) (i : Int) : FSpec Try.prog 4 [.agg (q4 a), .agg (q4 b), .int .i64 i] [] (.bool true) [] := by
  have hA := fAdd_mod
  have hAL := fAddL_mod
  have hMu := fMul_spec
  have hML := fMulL_spec
  have hN := fNum6_spec
  have hpos : 0 < Lq := by decide
  have hM2 : Lq < 2 ^ 256 := by decide
  generalize Lq = M at *
  have h1 := Nat.mod_lt a hpos
  have h2 := Nat.mod_lt b hpos
  refine FSpec.of_W fSSums_low (by simp) ?_
  simp only [initEnv]
  simp
  refine WO_callP [] rfl rfl fLives6_spec (by simp) (by simp) ?_
  simp
  refine WO_callQ rfl (hN a ha) (by simp) ?_
  simp
  refine WO_callQ rfl (hN b hb) (by simp) ?_
  simp
  have hBit := fBit_spec a i
  obtain ⟨y, hy⟩ : ∃ y : Bool, y = decide (0 ≤ i ∧ i < 256 ∧ a / 2 ^ i.toNat % 2 = 1) := ⟨_, rfl⟩
  rw [← hy] at hBit
  refine WG_join [(2, .int .i64 i), (3, .ptr 0 0), (7, .ptr 2 0), (8, .ptr 3 0), (9, .bool y)] [some ⟨q4 a, 26, true⟩, some ⟨q4 b, 26, true⟩, some ⟨q4 (a % M), 26, true⟩, some ⟨q4 (b % M), 26, true⟩] ?_ ?_
  · simp
    refine WO_callP [] rfl rfl (hA _ _ h1 h2) (by simp) (by simp) ?_
    simp
    refine WO_callP [] rfl rfl (hAL _ _ h1 h2) (by simp) (by simp) ?_
    simp
    refine WO_callP [] rfl rfl (hMu _ _ h1 (by omega)) (by simp) (by simp) ?_
    simp
    refine WO_callP [] rfl rfl (hML _ _ h1 (by omega)) (by simp) (by simp) ?_
    simp
    refine WO_callP [] rfl rfl hBit (by simp) (by simp) ?_
    simp
    exact fin_W (by simp)
  intro k' Q' hk
  by_cases g0 : 0 ≤ i
  · by_cases g1 : i < 256
    · obtain ⟨k, rfl⟩ := Int.eq_ofNat_of_zero_le g0
      have h6 : k < 256 := by omega
      obtain ⟨q, hq⟩ : ∃ q, q = k / 64 := ⟨_, rfl⟩
      obtain ⟨r, hr⟩ : ∃ r, r = k % 64 := ⟨_, rfl⟩
      have e0 : max (min (k : Int) 255) 0 = (k : Int) := by omega
      have e1 : (k : Int).tdiv 64 = (q : Int) := by rw [hq]; rfl
      have e2 : (k : Int).tmod 64 = (r : Int) := by rw [hr]; rfl
      have e4 := and1_u64 (a := wd a q / 2 ^ r) (Nat.lt_of_le_of_lt (Nat.div_le_self _ _) (wd_lt _ _))
      have e5 : ((wd a q : Nat) : Int).fdiv (2 ^ min r 64) = ((wd a q / 2 ^ r : Nat) : Int) := by rw [show min r 64 = r by omega]; exact shr_nat _ _
      have e6 : (q : Int) < 4 := by omega
      have e7 : q < 4 := by omega
      have e3 := wd_bit' a k
      rw [← hq, ← hr] at e3
      generalize wd a q / 2 ^ r = z at *
      have e8 : y = decide (((z % 2 : Nat) : Int) = 1) := by rw [hy]; simp [g1, ← e3]; omega
      obtain ⟨x, hx⟩ : ∃ x, x = z % 2 := ⟨_, rfl⟩
      rw [← hx] at e8 e4
      rw [e8] at hk
      simp [g1, e0, e1, e2, e6, e7, e5, e4, IntKind.bits, wrap64s (n := (q : Int)) (by omega) (by omega)]
      exact hk
    · rw [show y = false by rw [hy]; simp [g1]] at hk
      simp [g0, g1]
      exact hk
  · rw [show y = false by rw [hy]; simp [g0]] at hk
    simp [g0]
    exact hk
theorem fSRules_spec (a b c : Nat) (ha : a < 2 ^ 256) (hb : b < 2 ^ 256) (hc : c < 2 ^ 256) : FSpec Try.prog 5 [.agg (q4 a), .agg (q4 b), .agg (q4 c)] [] (.bool true) [] := by
  have hA := fAdd_mod
  have hMu := fMul_spec
  have hN := fNum6_spec
  have hR := fReduce_spec
  have hpos : 1 < Lq := by decide
  have hM2 : Lq < 2 ^ 256 := by decide
  generalize Lq = M at *
  have hp0 : 0 < M := by omega
  refine FSpec.of_W fSRules_low (by simp) ?_
  simp only [initEnv]
  simp
  refine WO_callP [] rfl rfl fLives6_spec (by simp) (by simp) ?_
  simp
  refine WO_callQ rfl (hN a ha) (by simp) ?_
  simp
  refine WO_callQ rfl (hN b hb) (by simp) ?_
  simp
  refine WO_callQ rfl (hN c hc) (by simp) ?_
  simp
  have h1 := Nat.mod_lt a hp0
  have h2 := Nat.mod_lt b hp0
  have h3 := Nat.mod_lt c hp0
  generalize a % M = x at *
  generalize b % M = y at *
  generalize c % M = z at *
  refine WO_callQ rfl (fEncode_spec x) (by simp) ?_
  simp
  refine WO_callQ rfl (fEncode_spec y) (by simp) ?_
  simp [byL_len, z4_1]
  refine W_loop (X := { i : Nat // i ≤ 32 }) (fun i => [(7, .ptr 3 0), (8, .ptr 4 0), (9, .ptr 5 0), (10, .ptr 6 0), (11, .ptr 7 0), (12, .ptr 8 0), (26, .int .i64 i.1)]) (fun i => [none, none, none, some ⟨q4 x, 28, true⟩, some ⟨q4 y, 28, true⟩, some ⟨q4 z, 28, true⟩, some ⟨(byL 32 x).map bv, 22, true⟩, some ⟨(byL 32 y).map bv, 22, true⟩, some ⟨q4 (256 ^ i.1 % M), 28, true⟩]) (fun i => 32 - i.1) ⟨0, by omega⟩ retPost_le ?_ ?_
  · exact cut_w (by simp [Nat.mod_eq_of_lt hpos])
  rintro ⟨i, hi⟩
  simp only
  simp
  refine WC_dec (fun h => ?_) (fun h => ?_)
  · have hq := hMu _ 256 (Nat.mod_lt (256 ^ i) hp0) (by decide)
    rw [Nat.mod_mul_mod, ← Nat.pow_succ] at hq
    simp [z4_256]
    refine WO_callP [] rfl rfl hq (by simp) (by simp) ?_
    simp
    refine ⟨⟨i + 1, by omega⟩, by simp; omega, ?_⟩
    exact cut_w (by simp [wrap64s (n := (i : Int) + 1) (by omega) (by omega)])
  have : i = 32 := by omega
  subst this
  have hx : x < 256 ^ 32 := show x < 2 ^ 256 by omega
  have hy : y < 256 ^ 32 := show y < 2 ^ 256 by omega
  have r1 := hR (byL 32 x ++ byL 32 y) ⟨false, false, true⟩ (by simp [byL_len])
  rw [byN_append, byN_byL, byN_byL, Nat.mod_eq_of_lt hx, Nat.mod_eq_of_lt hy, byL_len] at r1
  have r2 := hMu (256 ^ 32 % M) y (Nat.mod_lt _ hp0) (by omega)
  rw [Nat.mod_mul_mod] at r2
  have r3 := hA x (256 ^ 32 * y % M) h1 (Nat.mod_lt _ hp0)
  rw [Nat.add_mod_mod] at r3
  have r4 := hA x y h1 h2
  have r5 := hA y x h2 h1
  rw [Nat.add_comm y x] at r5
  have r6 := hMu x y h1 (by omega)
  have r7 := hMu y x h2 (by omega)
  rw [Nat.mul_comm y x] at r7
  have r8 := hA y z h2 h3
  have r9 := hMu x ((y + z) % M) h1 (Nat.lt_trans (Nat.mod_lt _ hp0) hM2)
  rw [Nat.mul_mod_mod, Nat.mul_add] at r9
  have r10 := hMu x z h1 (by omega)
  have r11 := hA (x * y % M) (x * z % M) (Nat.mod_lt _ hp0) (Nat.mod_lt _ hp0)
  rw [← Nat.add_mod] at r11
  have r12 := hA x 0 h1 hp0
  rw [Nat.add_zero, Nat.mod_eq_of_lt h1] at r12
  have r13 := hMu x 1 h1 (by decide)
  rw [Nat.mul_one, Nat.mod_eq_of_lt h1] at r13
  generalize 256 ^ 32 = F at *
  simp [byL_len, List.take_of_length_le]
  refine WO_callP [9] (as' := [.list 1 ⟨false, false, true⟩ ((byL 32 x ++ byL 32 y).map bv)]) rfl (by simp [byL_len, List.take_of_length_le]) r1 (by simp) (by simp) ?_
  simp
  refine WO_callP [] rfl rfl r2 (by simp) (by simp) ?_
  simp
  refine WO_callP [] rfl rfl r3 (by simp) (by simp) ?_
  simp
  refine WO_callP [] rfl rfl r4 (by simp) (by simp) ?_
  simp
  refine WO_callP [] rfl rfl r5 (by simp) (by simp) ?_
  simp
  refine WO_callP [] rfl rfl r6 (by simp) (by simp) ?_
  simp
  refine WO_callP [] rfl rfl r7 (by simp) (by simp) ?_
  simp
  refine WO_callP [] rfl rfl r8 (by simp) (by simp) ?_
  simp
  refine WO_callP [] rfl rfl r9 (by simp) (by simp) ?_
  simp
  refine WO_callP [] rfl rfl r6 (by simp) (by simp) ?_
  simp
  refine WO_callP [] rfl rfl r10 (by simp) (by simp) ?_
  simp
  refine WO_callP [] rfl rfl r11 (by simp) (by simp) ?_
  simp
  refine WO_callP [] rfl rfl r12 (by simp) (by simp) ?_
  simp [z4_1]
  refine WO_callP [] rfl rfl r13 (by simp) (by simp) ?_
  simp
  exact fin_W (by simp)
end Go.Proofs.Ytcmjfjomfdljkaa
