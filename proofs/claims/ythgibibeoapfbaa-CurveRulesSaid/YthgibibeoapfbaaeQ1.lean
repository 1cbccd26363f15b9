/-
  Field.
-/
import Derived.Test.YthgibibeoapfbaaeKQ
set_option linter.unusedSimpArgs false
set_option linter.unnecessarySimpa false
set_option linter.unusedVariables false
set_option linter.unusedSectionVars false
namespace Go.Proofs.Ythgibibeoapfbaa
open Go Go.Fw
attribute [local simp] bv cleanL_bv toBytes_bv ltL_bv atF_drop WS_at_bytes W_nil W_skip W_seq W_reg W_draw W_drawP W_kill W_keep W_block W_blk W_exit W_ret WX_blk WX_c WX_lp WX_li W_li W_condT W_condF W_cond WC_true WC_false
  WR_nil WR_cons WR_o1 WR_o2 o1_chk o2_chk WR_grd WG_tt WG_ff WG_tf WG_ft WG_none WS_some WS_ok1 WSr_no WSr_some WSr_ok1 WSr_at_bytes WH_some WHA_some chkF_cons chkF_nil chkE_some chkE_ok1 chkE_at evF WO_mv WO_pick WO_bin WO_isNil WO_eqA WO_un WO_convI WO_toStr WO_ofStr WO_build WO_buildF WO_load WO_nilCheck WO_fieldAddr WO_field WO_idxA WO_idxS
  WO_ixA WO_slS WO_slA WO_len WO_lenK WO_appF WO_extract WO_s2a WO_iface WO_min WO_max WO_alloc WO_box WO_buildO WO_store WO_appO WO_copy WO_makeS WO_allocA WO_makeA WO_cvt cvtF_slice WO_look lookF_map alAF mkAF WO_func bind1_v bind2_v bindH_v bindH2_v bindS_v okO_v pickO_t pickO_f
  Env.keep Env.get Env.set Env.del Env.dels Env.setO Env.opd Env.opds Env.opdO Env.parts intF aggF fillA splice cleanL AV.clean bndF fldF_one fldF_many toStrF boxF buildOF
  loadF_rptr loadF_rptrN atF_zero atF_succ blk_cons_zero blk_cons_succ loadF_p loadF_pN atB_some atBN_some retPost resL one
  okc_bool cells_bool notStr_bool okc_int cells_int notStr_int okc_str cells_str notStr_str okc_nil cells_nil notStr_nil okc_ptr cells_ptr notStr_ptr okc_rptr cells_rptr notStr_rptr okc_slice cells_slice notStr_slice 
  okc_list cells_list notStr_list okc_func cells_func notStr_func okc_nilFunc cells_nilFunc notStr_nilFunc okc_iface cells_iface notStr_iface okc_nilIface cells_nilIface notStr_nilIface okc_agg cells_agg notStr_agg 
  okc_tuple cells_tuple notStr_tuple lenF_slice lenF_list lenF_str faF_ptr faF_rptr idxSF_slice idxSF_list idxAF_ptr idxAF_rptr ixAF_many ixAF_one convF_int unF_neg unF_xor unF_not nilF_0nil nilF_0ptr nilF_0rptr nilF_1 
  nilF_2nil nilF_2f nilF_3nil nilF_3f binF_int binF_beq binF_bne binF_sadd binF_seq binF_sne sliceCells_list sliceCells_str sliceCells_slice cutC_some szAV_list szAV_str szAV_slice oneSl_list oneSl_slice slSF_sliceS 
  slSF_sliceN slSF_list slAF_rptr slAF_ptr appFF_list appOF_list appOF_sliceN appOF_sliceS storeF_ptr copyF_slice extF_tuple s2aF_slice s2aF_list nchkF_ptr nchkF_rptr nchkF_f mmF_int ofStrF_str mkSF_int eqAF_agg
attribute [local irreducible] W WX WR WO WS WSr WH WHA WG WC FSpec
attribute [local simp] lendAll
attribute [local congr] W_cg WR_cg WO_cg WS_cg WSr_cg WH_cg WHA_cg WG_cg WC_cg WX_cg
attribute [local simp] Env.has AV.wkr wkrL AV.wkr_refl wkrL_refl AV.ltI ltL leHW hasW Env.lt AV.ids idsL AV.sub subL AV.ren AV.frz frzS frzP frzE frzL Heap.frz Blk.frz Blk.ren renL rnS rnP hasR leR idsL_bv subL_bv
attribute [local simp] cleanL_take cleanL_drop ltL_take ltL_drop idsL_take idsL_drop subL_take subL_drop cleanL_append ltL_append idsL_append subL_append
attribute [local simp] renE mvN mvH
attribute [local simp] fwd backH putL bwd
attribute [local simp] u8i u8e List.idxOf_cons
attribute [local simp] hasRW leRW
attribute [local simp] WS_at_q4 WSr_at_q4 WS_at_mx mx_set' loadWP splice_full Int.natCast_inj
theorem p25_lt : p25 < 2 ^ 255 := by decide
theorem q4_p25 : q4 p25 = [.int .u64 18446744073709551597, .int .u64 18446744073709551615, .int .u64 18446744073709551615, .int .u64 9223372036854775807] := by kernel_rfl
theorem fFdModulus_spec : FSpec Try.prog 112 [] [] (.agg (q4 p25)) [] := by
  refine FSpec.of_W fFdModulus_low (by simp) ?_
  simp only [initEnv]
  simp
  exact fin_W (by simp [q4_p25])
theorem fFdSmall_spec (n : Nat) (h : n < 2 ^ 64) : FSpec Try.prog 62 [.int .u64 (n : Nat)] [] (.agg (q4 n)) [] := by
  have e : q4 n = [.int .u64 (n : Nat), .int .u64 0, .int .u64 0, .int .u64 0] := by
    have := q4_mk (a := n) (b := 0) (c := 0) (d := 0) h (by decide) (by decide) (by decide)
    simpa [mk4] using this
  refine FSpec.of_W fFdSmall_low (by simp) ?_
  simp only [initEnv]
  simp
  exact fin_W (by simp [e])
theorem fFdLess_spec (a b : Nat) (ha : a < 2 ^ 256) (hb : b < 2 ^ 256) : FSpec Try.prog 111 [.agg (q4 a), .agg (q4 b)] [] (.bool (decide (a < b))) [] := by
  refine FSpec.of_W fFdLess_low (by simp) ?_
  simp only [initEnv]
  simp
  refine W_loop (X := { i : Nat // i ≤ 4 ∧ a / 2 ^ (64 * i) = b / 2 ^ (64 * i) }) (fun i => [(2, .ptr 0 0), (3, .ptr 1 0), (5, .int .i64 ((i.1 : Int) - 1))]) (fun _ => [some ⟨q4 a, 49, true⟩, some ⟨q4 b, 49, true⟩]) (fun i => i.1) ⟨4, by omega, by omega⟩ retPost_le ?_ ?_
  · exact cut_w (by simp)
  · rintro ⟨i, hi, he⟩
    obtain _ | k := i
    · simp
      refine fin_W ?_
      simp at he
      simp [he]
    · have h4 : k < 4 := by omega
      simp [h4]
      refine ⟨by omega, ?_⟩
      refine WC_ndec (fun h => ?_) (fun h => ?_)
      · simp [h4]
        refine ⟨by omega, ?_⟩
        refine fin_W ?_
        simp
        rw [wd_cmp he (by omega)]
      · simp
        refine ⟨⟨k, by omega, wd_eq he (by omega)⟩, by simp, ?_⟩
        exact cut_w (by simp [wrap64s (n := (k : Int) - 1) (by omega) (by omega)])
theorem add64_q (a b i : Nat) (H : Heap) : FSpec Try.prog 90 [.int .u64 (wd a i : Nat), .int .u64 (wd b i : Nat), .int .u64 (car a b i : Nat)] H (.tuple [.int .u64 (wd (a + b) i : Nat), .int .u64 (car a b (i + 1) : Nat)]) H := by
  rw [wd_add, ← car_succ]
  exact FSpec.add64 (fn := Try.f90) Try.func90 (by kernel_rfl) (by kernel_rfl) (by kernel_rfl) (by kernel_rfl) _ _ _ (car_le a b i)
theorem add64_p (x y : Nat) (H : Heap) : FSpec Try.prog 90 [.int .u64 (x : Nat), .int .u64 (y : Nat), .int .u64 0] H (.tuple [.int .u64 ((x + y) % 2 ^ 64 : Nat), .int .u64 ((x + y) / 2 ^ 64 : Nat)]) H :=
  FSpec.add64 (fn := Try.f90) Try.func90 (by kernel_rfl) (by kernel_rfl) (by kernel_rfl) (by kernel_rfl) x y 0 (by decide)
theorem sub64_q (a b i : Nat) (h : b ≤ a) (H : Heap) : FSpec Try.prog 122 [.int .u64 (wd a i : Nat), .int .u64 (wd b i : Nat), .int .u64 (bor a b i : Nat)] H (.tuple [.int .u64 (wd (a - b) i : Nat), .int .u64 (bor a b (i + 1) : Nat)]) H := by
  rw [← wd_sub a b i h, ← bor_succ]
  exact FSpec.sub64 (fn := Try.f122) Try.func122 (by kernel_rfl) (by kernel_rfl) (by kernel_rfl) (by kernel_rfl) _ _ _ (bor_le a b i)
theorem fFdMinus_spec (a b : Nat) (h : b ≤ a) : FSpec Try.prog 116 [.agg (q4 a), .agg (q4 b)] [] (.agg (q4 (a - b))) [] := by
  refine FSpec.of_W fFdMinus_low (by simp) ?_
  simp only [initEnv]
  simp
  refine W_loop (X := { i : Nat // i ≤ 4 }) (fun i => [(2, .ptr 0 0), (3, .ptr 1 0), (4, .ptr 2 0), (5, .ptr 3 0), (6, .int .u64 (bor a b i.1 : Nat)), (8, .int .i64 i.1)]) (fun i => [some ⟨q4 a, 49, true⟩, some ⟨q4 b, 49, true⟩, some ⟨q4 0, 49, true⟩, some ⟨mx i.1 (a - b) 0, 49, true⟩]) (fun i => 4 - i.1) ⟨0, by omega⟩ retPost_le ?_ ?_
  · exact cut_w (by simp [bor_zero, mx_zero, q4_zero])
  · rintro ⟨i, hi⟩
    simp only
    simp
    refine WC_dec (fun hl => ?_) (fun hl => ?_)
    · have h4 : i < 4 := by omega
      simp [h4, hl]
      refine WO_call rfl (sub64_q a b i h _) (by simp) ?_
      simp [h4, hl]
      refine ⟨by omega, ⟨i + 1, by omega⟩, by simp; omega, ?_⟩
      exact cut_w (by simp [wrap64s (n := (i : Int) + 1) (by omega) (by omega)])
    · have h4 : i = 4 := by omega
      subst h4
      simp [mx_four]
      exact fin_W (by simp)
theorem fMul64_spec (x y : Nat) (hx : x < 2 ^ 64) (hy : y < 2 ^ 64) : FSpec Try.prog 133 [.int .u64 (x : Nat), .int .u64 (y : Nat)] [] (.tuple [.int .u64 (x * y / 2 ^ 64 : Nat), .int .u64 (x * y % 2 ^ 64 : Nat)]) [] := by
  have hp := mul64_parts x y hx hy
  obtain ⟨x0, hx0⟩ : ∃ x0, x0 = x % 2 ^ 32 := ⟨_, rfl⟩
  obtain ⟨x1, hx1⟩ : ∃ x1, x1 = x / 2 ^ 32 := ⟨_, rfl⟩
  obtain ⟨y0, hy0⟩ : ∃ y0, y0 = y % 2 ^ 32 := ⟨_, rfl⟩
  obtain ⟨y1, hy1⟩ : ∃ y1, y1 = y / 2 ^ 32 := ⟨_, rfl⟩
  have l1 : x0 < 2 ^ 32 := by omega
  have l2 : x1 < 2 ^ 32 := by omega
  have l3 : y0 < 2 ^ 32 := by omega
  have l4 : y1 < 2 ^ 32 := by omega
  have m1 := mul32_lt l1 l3
  have m2 := mul32_lt l2 l3
  have m3 := mul32_lt l1 l4
  have m4 := mul32_lt l2 l4
  have a1 : bitI .and .u64 (x : Int) 4294967295 = (x0 : Nat) := by
    have := bitI_and (k := .u64) rfl (a := x) (b := 4294967295) hx (by decide)
    rw [hx0, ← Nat.and_two_pow_sub_one_eq_mod]; exact this
  have a2 : bitI .and .u64 (y : Int) 4294967295 = (y0 : Nat) := by
    have := bitI_and (k := .u64) rfl (a := y) (b := 4294967295) hy (by decide)
    rw [hy0, ← Nat.and_two_pow_sub_one_eq_mod]; exact this
  have a3 : (x : Int).fdiv (2 ^ min 32 IntKind.u64.bits) = (x1 : Nat) := by rw [hx1]; exact shr_nat x 32
  have a4 : (y : Int).fdiv (2 ^ min 32 IntKind.u64.bits) = (y1 : Nat) := by rw [hy1]; exact shr_nat y 32
  rw [← hx0, ← hx1, ← hy0, ← hy1] at hp
  obtain ⟨A, hA⟩ : ∃ A, A = x0 * y0 := ⟨_, rfl⟩
  obtain ⟨B, hB⟩ : ∃ B, B = x1 * y0 := ⟨_, rfl⟩
  obtain ⟨C, hC⟩ : ∃ C, C = x0 * y1 := ⟨_, rfl⟩
  obtain ⟨D, hD⟩ : ∃ D, D = x1 * y1 := ⟨_, rfl⟩
  obtain ⟨Z, hZ⟩ : ∃ Z, Z = x * y := ⟨_, rfl⟩
  rw [← hA, ← hB, ← hC, ← hD, ← hZ] at hp
  rw [← hA] at m1
  rw [← hB] at m2
  rw [← hC] at m3
  rw [← hD] at m4
  have wr : ∀ n : Nat, n < 2 ^ 64 → IntKind.u64.wrap (n : Int) = (n : Nat) := fun n h => by rw [wrapu64, Nat.mod_eq_of_lt h]
  have b1 : IntKind.u64.wrap ((x0 : Int) * y0) = (A : Nat) := by rw [hA, ← Int.natCast_mul]; exact wr _ (by omega)
  have b2 : IntKind.u64.wrap ((x1 : Int) * y0) = (B : Nat) := by rw [hB, ← Int.natCast_mul]; exact wr _ (by omega)
  have b3 : IntKind.u64.wrap ((x0 : Int) * y1) = (C : Nat) := by rw [hC, ← Int.natCast_mul]; exact wr _ (by omega)
  have b4 : IntKind.u64.wrap ((x1 : Int) * y1) = (D : Nat) := by rw [hD, ← Int.natCast_mul]; exact wr _ (by omega)
  have sh : ∀ n : Nat, (n : Int).fdiv (2 ^ min 32 IntKind.u64.bits) = (n / 2 ^ 32 : Nat) := fun n => shr_nat n 32
  obtain ⟨t, ht⟩ : ∃ t, t = B + A / 2 ^ 32 := ⟨_, rfl⟩
  have c1 : IntKind.u64.wrap ((B : Int) + ((A / 2 ^ 32 : Nat) : Int)) = (t : Nat) := by rw [ht, ← Int.natCast_add]; exact wr _ (by omega)
  have c2 : bitI .and .u64 (t : Int) 4294967295 = (t % 2 ^ 32 : Nat) := by
    have := bitI_and (k := .u64) rfl (a := t) (b := 4294967295) (show t < 2 ^ 64 by omega) (by decide)
    rw [← Nat.and_two_pow_sub_one_eq_mod]; exact this
  obtain ⟨w, hw⟩ : ∃ w, w = t % 2 ^ 32 + C := ⟨_, rfl⟩
  have c3 : IntKind.u64.wrap (((t % 2 ^ 32 : Nat) : Int) + C) = (w : Nat) := by rw [hw, ← Int.natCast_add]; exact wr _ (by omega)
  have c4 : IntKind.u64.wrap ((D : Int) + ((t / 2 ^ 32 : Nat) : Int)) = ((D + t / 2 ^ 32 : Nat) : Int) := by rw [← Int.natCast_add]; exact wr _ (by omega)
  have c5 : IntKind.u64.wrap (((D + t / 2 ^ 32 : Nat) : Int) + ((w / 2 ^ 32 : Nat) : Int)) = ((D + t / 2 ^ 32 + w / 2 ^ 32 : Nat) : Int) := by rw [← Int.natCast_add]; exact wr _ (by omega)
  have c6 : IntKind.u64.wrap ((x : Int) * y) = (Z % 2 ^ 64 : Nat) := by rw [hZ, ← Int.natCast_mul, wrapu64]
  have c7 : D + t / 2 ^ 32 + w / 2 ^ 32 = Z / 2 ^ 64 := by omega
  rw [c7] at c5
  rw [← hZ]
  clear hp hx0 hx1 hy0 hy1 hA hB hC hD hZ m1 m2 m3 m4 c7
  refine FSpec.of_W fMul64_low (by simp) ?_
  simp only [initEnv]
  simp
  simp only [a1, a2, a3, a4, b1, b2, b3, b4, sh, c1, c2, c3, c4, c5, c6]
  exact fin_W (by simp)
theorem fFdReduced_spec (a : Nat) (ha : a < 2 ^ 256) : FSpec Try.prog 134 [.agg (q4 a)] [] (.agg (q4 (a % p25))) [] := by
  have hM := fFdModulus_spec
  have hp := p25_lt
  have hpos := p25_pos
  generalize p25 = p at *
  refine FSpec.of_W fFdReduced_low (by simp) ?_
  simp only [initEnv]
  simp
  refine W_loop (X := { v : Nat // v < 2 ^ 256 ∧ v % p = a % p }) (fun v => [(1, .ptr 0 0), (2, .ptr 1 0)]) (fun v => [some ⟨q4 v.1, 49, true⟩, some ⟨q4 0, 49, true⟩]) (fun v => v.1) ⟨a, ha, rfl⟩ retPost_le ?_ ?_
  · exact cut_w (by simp [q4_zero])
  · rintro ⟨v, hv, hr⟩
    simp only
    simp
    refine WO_callP [] rfl rfl hM (by simp) (by simp) ?_
    simp
    refine WO_callP [] rfl rfl (fFdLess_spec v p hv (by omega)) (by simp) (by simp) ?_
    simp
    refine WC_ndec (fun h => ?_) (fun h => ?_)
    · simp
      refine WO_callP [] rfl rfl hM (by simp) (by simp) ?_
      simp
      refine WO_callP [] rfl rfl (fFdMinus_spec v p (by omega)) (by simp) (by simp) ?_
      simp
      have hs : (v - p) % p = a % p := by rw [← hr, ← Nat.mod_eq_sub_mod (by omega)]
      refine ⟨⟨v - p, by omega, hs⟩, by simp; omega, ?_⟩
      exact cut_w (by simp)
    · simp
      rw [Nat.mod_eq_of_lt h] at hr
      rw [← hr]
      exact fin_W (by simp)
theorem q4_mod (n : Nat) : q4 (n % 115792089237316195423570985008687907853269984665640564039457584007913129639936) = q4 n := by
  have h : ∀ k, k < 4 → wd (n % 2 ^ 256) k = wd n k := fun k hk => by
    rw [wd, wd, show (256 : Nat) = 64 * k + (256 - 64 * k) by omega, Nat.pow_add, Nat.mod_mul_right_div_self, show 256 - 64 * k = 64 + (192 - 64 * k) by omega, Nat.pow_add, Nat.mod_mul_right_mod]
  have h0 := h 0 (by decide); have h1 := h 1 (by decide); have h2 := h 2 (by decide); have h3 := h 3 (by decide)
  simp only [q4]
  rw [show (115792089237316195423570985008687907853269984665640564039457584007913129639936 : Nat) = 2 ^ 256 from rfl, h0, h1, h2, h3]
theorem car_top {a b : Nat} (h : a < 2 ^ 256) (hb : b < 2 ^ 256) : (a + b) % 2 ^ 256 + 2 ^ 256 * car a b 4 = a + b := by
  simp only [car]
  rw [Nat.mod_eq_of_lt (show a < 2 ^ (64 * 4) from h), Nat.mod_eq_of_lt (show b < 2 ^ (64 * 4) from hb)]
  omega
theorem mod38 (a o : Nat) : (a + 2 ^ 256 * o) % p25 = (a + 38 * o) % p25 := by
  rw [show (2 : Nat) ^ 256 = 38 + p25 * 2 from rfl, Nat.add_mul, ← Nat.add_assoc, Nat.mul_assoc, Nat.add_mul_mod_self_left]
/-- So many times 2^256 over. -/
theorem fFdFolded_spec (a o : Nat) (ha : a < 2 ^ 256) (ho : o < 2 ^ 64) : FSpec Try.prog 114 [.agg (q4 a), .int .u64 (o : Nat)] [] (.agg (q4 ((a + 2 ^ 256 * o) % p25))) [] := by
  have h38 := mod38
  have hred := fFdReduced_spec
  have hp := p25_lt
  have hpos := p25_pos
  generalize p25 = p at *
  refine FSpec.of_W fFdFolded_low (by simp) ?_
  simp only [initEnv]
  simp
  refine W_loop (X := { v : Nat × Nat // v.1 < 2 ^ 256 ∧ v.2 < 2 ^ 64 ∧ (v.1 + 2 ^ 256 * v.2) % p = (a + 2 ^ 256 * o) % p }) (fun v => [(1, .int .u64 (v.1.2 : Nat)), (2, .ptr 0 0), (4, .ptr 1 0)]) (fun v => [some ⟨q4 v.1.1, 49, true⟩, some ⟨q4 0, 49, true⟩]) (fun v => v.1.1 + 2 ^ 256 * v.1.2) ⟨(a, o), ha, ho, rfl⟩ retPost_le ?_ ?_
  · exact cut_w (by simp [q4_zero])
  · rintro ⟨⟨v, u⟩, hv, hu, hr⟩
    simp only at hv hu hr ⊢
    simp
    refine WC_dec (fun h => ?_) (fun h => ?_)
    · have hu0 : 0 < u := by omega
      obtain ⟨m, hm⟩ : ∃ m, m = u * 38 := ⟨_, rfl⟩
      have hM := fMul64_spec u 38 hu (by decide)
      rw [← hm] at hM
      have e0 : m % 2 ^ 64 = wd m 0 := (wd0 m).symm
      have e1 : m / 2 ^ 64 = wd m 1 := by rw [wd1]; omega
      have e2 : wd m 2 = 0 := by rw [wd2, Nat.div_eq_of_lt (by omega)]
      have e3 : wd m 3 = 0 := by rw [wd3, Nat.div_eq_of_lt (by omega)]
      rw [e0, e1] at hM
      have s0 := add64_q v m 0
      have s1 := add64_q v m 1
      have s2 := add64_q v m 2
      have s3 := add64_q v m 3
      rw [car_zero] at s0
      rw [e2] at s2
      rw [e3] at s3
      have ht := car_top hv (show m < 2 ^ 256 by omega)
      have hc := car_le v m 4
      rw [show q4 v = mx 0 (v + m) v from rfl]
      simp
      refine WO_callP [] rfl rfl hM (by simp) (by simp) ?_
      simp
      refine WO_call rfl (s0 _) (by simp) ?_
      simp
      refine WO_call rfl (s1 _) (by simp) ?_
      simp
      refine WO_call rfl (s2 _) (by simp) ?_
      simp
      refine WO_call rfl (s3 _) (by simp) ?_
      simp
      have hn : ((v + m) % 2 ^ 256 + 2 ^ 256 * car v m 4) % p = (a + 2 ^ 256 * o) % p := by
        rw [ht, hm, ← hr, h38 v u, Nat.mul_comm]
      refine ⟨⟨((v + m) % 2 ^ 256, car v m 4), Nat.mod_lt _ (by decide), by simp only; omega, hn⟩, by simp only; omega, ?_⟩
      exact cut_w (by simp [mx_four, q4_mod])
    · obtain rfl : u = 0 := by omega
      rw [Nat.mul_zero, Nat.add_zero] at hr
      simp
      refine WO_callP [] rfl rfl (hred v hv) (by simp) (by simp) ?_
      rw [hr]
      simp
      exact fin_W (by simp)
end Go.Proofs.Ythgibibeoapfbaa
