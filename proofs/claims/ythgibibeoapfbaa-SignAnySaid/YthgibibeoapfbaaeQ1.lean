/-
  Texts that belong together.
-/
import Derived.Test.YthgibibeoapfbaaeKQ
set_option linter.unusedSimpArgs false
set_option linter.unnecessarySimpa false
set_option linter.unusedVariables false
set_option linter.unusedSectionVars false
/-
  Field.
-/
namespace Go.Proofs.Ythgibibeoapfbaa
open Go Go.Fw
attribute [local simp] bv cleanL_bv toBytes_bv ltL_bv atF_drop WS_at_bytes W_nil W_skip W_seq W_reg W_draw W_drawP W_kill W_keep W_block W_blk W_exit W_ret WX_blk WX_c WX_lp WX_li W_li W_condT W_condF W_cond WC_true WC_false
  WR_nil WR_cons WR_o1 WR_o2 o1_chk o2_chk WR_grd WG_tt WG_ff WG_tf WG_ft WG_none WS_some WS_ok1 WSr_no WSr_some WSr_ok1 WSr_at_bytes WH_some WHA_some chkF_cons chkF_nil chkE_some chkE_ok1 chkE_at evF WO_mv WO_pick WO_bin WO_isNil WO_eqA WO_un WO_convI WO_toStr WO_ofStr WO_build WO_buildF WO_load WO_nilCheck WO_fieldAddr WO_field WO_idxA WO_idxS
  WO_ixA WO_slS WO_slA WO_len WO_lenK WO_appF WO_extract WO_s2a WO_iface WO_min WO_max WO_alloc WO_box WO_buildO WO_store WO_appO WO_copy WO_makeS WO_allocA WO_makeA WO_cvt cvtF_slice WO_look lookF_map alAF mkAF WO_func bind1_v bind2_v bindH_v bindH2_v bindS_v okO_v pickO_t pickO_f
  Env.keep Env.get Env.set Env.del Env.dels Env.setO Env.opd Env.opds Env.opdO Env.parts intF aggF fillA splice cleanL AV.clean bndF fldF_one fldF_many toStrF boxF buildOF
  loadF_rptr loadF_rptrN atF_zero atF_succ blk_cons_zero blk_cons_succ loadF_p loadF_pN atB_some atBN_some retPost resL one
  okc_bool cells_bool notStr_bool okc_int cells_int notStr_int okc_str cells_str notStr_str okc_nil cells_nil notStr_nil okc_ptr cells_ptr notStr_ptr okc_rptr cells_rptr notStr_rptr okc_slice cells_slice notStr_slice 
  okc_list cells_list notStr_list okc_func cells_func notStr_func okc_nilFunc cells_nilFunc notStr_nilFunc okc_iface cells_iface notStr_iface okc_nilIface cells_nilIface notStr_nilIface okc_agg cells_agg notStr_agg 
  okc_tuple cells_tuple notStr_tuple lenF_slice lenF_list lenF_str faF_ptr faF_rptr idxSF_slice idxSF_list idxAF_ptr idxAF_rptr ixAF_many ixAF_one convF_int unF_neg unF_xor unF_not nilF_0nil nilF_0ptr nilF_0rptr nilF_1 
  nilF_2nil nilF_2f nilF_3nil nilF_3f binF_int binF_beq binF_bne binF_sadd binF_seq binF_sne sliceCells_list sliceCells_str sliceCells_slice cutC_some szAV_list szAV_str szAV_slice oneSl_list oneSl_slice slSF_sliceS 
  slSF_sliceN slSF_list slAF_rptr slAF_ptr appFF_list appOF_list appOF_sliceN appOF_sliceS storeF_ptr copyF_slice extF_tuple s2aF_slice s2aF_list nchkF_ptr nchkF_rptr nchkF_f mmF_int ofStrF_str mkSF_int eqAF_agg
attribute [local irreducible] W WX WR WO WS WSr WH WHA WG WC FSpec
attribute [local simp] lendAll
attribute [local congr] W_cg WR_cg WO_cg WS_cg WSr_cg WH_cg WHA_cg WG_cg WC_cg WX_cg
attribute [local simp] Env.has AV.wkr wkrL AV.wkr_refl wkrL_refl AV.ltI ltL leHW hasW Env.lt AV.ids idsL AV.sub subL AV.ren AV.frz frzS frzP frzE frzL Heap.frz Blk.frz Blk.ren renL rnS rnP hasR leR idsL_bv subL_bv
attribute [local simp] cleanL_take cleanL_drop ltL_take ltL_drop idsL_take idsL_drop subL_take subL_drop cleanL_append ltL_append idsL_append subL_append
attribute [local simp] renE mvN mvH
attribute [local simp] fwd backH putL bwd
attribute [local simp] u8i u8e List.idxOf_cons
attribute [local simp] hasRW leRW
attribute [local simp] WS_at_q4 WSr_at_q4 WS_at_mx mx_set' loadWP splice_full Int.natCast_inj
theorem p25_lt : p25 < 2 ^ 255 := by decide
theorem q4_p25 : q4 p25 = [.int .u64 18446744073709551597, .int .u64 18446744073709551615, .int .u64 18446744073709551615, .int .u64 9223372036854775807] := by kernel_rfl
theorem fFdModulus_spec : FSpec Try.prog 112 [] [] (.agg (q4 p25)) [] := by
  refine FSpec.of_W fFdModulus_low (by simp) ?_
  simp only [initEnv]
  simp
  exact fin_W (by simp [q4_p25])
theorem fFdSmall_spec (n : Nat) (h : n < 2 ^ 64) : FSpec Try.prog 62 [.int .u64 (n : Nat)] [] (.agg (q4 n)) [] := by
  have e : q4 n = [.int .u64 (n : Nat), .int .u64 0, .int .u64 0, .int .u64 0] := by
    have := q4_mk (a := n) (b := 0) (c := 0) (d := 0) h (by decide) (by decide) (by decide)
    simpa [mk4] using this
  refine FSpec.of_W fFdSmall_low (by simp) ?_
  simp only [initEnv]
  simp
  exact fin_W (by simp [e])
theorem fFdLess_spec (a b : Nat) (ha : a < 2 ^ 256) (hb : b < 2 ^ 256) : FSpec Try.prog 111 [.agg (q4 a), .agg (q4 b)] [] (.bool (decide (a < b))) [] := by
  refine FSpec.of_W fFdLess_low (by simp) ?_
  simp only [initEnv]
  simp
  refine W_loop (X := { i : Nat // i ≤ 4 ∧ a / 2 ^ (64 * i) = b / 2 ^ (64 * i) }) (fun i => [(2, .ptr 0 0), (3, .ptr 1 0), (5, .int .i64 ((i.1 : Int) - 1))]) (fun _ => [some ⟨q4 a, 49, true⟩, some ⟨q4 b, 49, true⟩]) (fun i => i.1) ⟨4, by omega, by omega⟩ retPost_le ?_ ?_
  · exact cut_w (by simp)
  · rintro ⟨i, hi, he⟩
    obtain _ | k := i
    · simp
      refine fin_W ?_
      simp at he
      simp [he]
    · have h4 : k < 4 := by omega
      simp [h4]
      refine ⟨by omega, ?_⟩
      refine WC_ndec (fun h => ?_) (fun h => ?_)
      · simp [h4]
        refine ⟨by omega, ?_⟩
        refine fin_W ?_
        simp
        rw [wd_cmp he (by omega)]
      · simp
        refine ⟨⟨k, by omega, wd_eq he (by omega)⟩, by simp, ?_⟩
        exact cut_w (by simp [wrap64s (n := (k : Int) - 1) (by omega) (by omega)])
theorem add64_q (a b i : Nat) (H : Heap) : FSpec Try.prog 90 [.int .u64 (wd a i : Nat), .int .u64 (wd b i : Nat), .int .u64 (car a b i : Nat)] H (.tuple [.int .u64 (wd (a + b) i : Nat), .int .u64 (car a b (i + 1) : Nat)]) H := by
  rw [wd_add, ← car_succ]
  exact FSpec.add64 (fn := Try.f90) Try.func90 (by kernel_rfl) (by kernel_rfl) (by kernel_rfl) (by kernel_rfl) _ _ _ (car_le a b i)
theorem add64_p (x y : Nat) (H : Heap) : FSpec Try.prog 90 [.int .u64 (x : Nat), .int .u64 (y : Nat), .int .u64 0] H (.tuple [.int .u64 ((x + y) % 2 ^ 64 : Nat), .int .u64 ((x + y) / 2 ^ 64 : Nat)]) H :=
  FSpec.add64 (fn := Try.f90) Try.func90 (by kernel_rfl) (by kernel_rfl) (by kernel_rfl) (by kernel_rfl) x y 0 (by decide)
theorem sub64_q (a b i : Nat) (h : b ≤ a) (H : Heap) : FSpec Try.prog 122 [.int .u64 (wd a i : Nat), .int .u64 (wd b i : Nat), .int .u64 (bor a b i : Nat)] H (.tuple [.int .u64 (wd (a - b) i : Nat), .int .u64 (bor a b (i + 1) : Nat)]) H := by
  rw [← wd_sub a b i h, ← bor_succ]
  exact FSpec.sub64 (fn := Try.f122) Try.func122 (by kernel_rfl) (by kernel_rfl) (by kernel_rfl) (by kernel_rfl) _ _ _ (bor_le a b i)
theorem fFdMinus_spec (a b : Nat) (h : b ≤ a) : FSpec Try.prog 116 [.agg (q4 a), .agg (q4 b)] [] (.agg (q4 (a - b))) [] := by
  refine FSpec.of_W fFdMinus_low (by simp) ?_
  simp only [initEnv]
  simp
  refine W_loop (X := { i : Nat // i ≤ 4 }) (fun i => [(2, .ptr 0 0), (3, .ptr 1 0), (4, .ptr 2 0), (5, .ptr 3 0), (6, .int .u64 (bor a b i.1 : Nat)), (8, .int .i64 i.1)]) (fun i => [some ⟨q4 a, 49, true⟩, some ⟨q4 b, 49, true⟩, some ⟨q4 0, 49, true⟩, some ⟨mx i.1 (a - b) 0, 49, true⟩]) (fun i => 4 - i.1) ⟨0, by omega⟩ retPost_le ?_ ?_
  · exact cut_w (by simp [bor_zero, mx_zero, q4_zero])
  · rintro ⟨i, hi⟩
    simp only
    simp
    refine WC_dec (fun hl => ?_) (fun hl => ?_)
    · have h4 : i < 4 := by omega
      simp [h4, hl]
      refine WO_call rfl (sub64_q a b i h _) (by simp) ?_
      simp [h4, hl]
      refine ⟨by omega, ⟨i + 1, by omega⟩, by simp; omega, ?_⟩
      exact cut_w (by simp [wrap64s (n := (i : Int) + 1) (by omega) (by omega)])
    · have h4 : i = 4 := by omega
      subst h4
      simp [mx_four]
      exact fin_W (by simp)
theorem fMul64_spec (x y : Nat) (hx : x < 2 ^ 64) (hy : y < 2 ^ 64) : FSpec Try.prog 133 [.int .u64 (x : Nat), .int .u64 (y : Nat)] [] (.tuple [.int .u64 (x * y / 2 ^ 64 : Nat), .int .u64 (x * y % 2 ^ 64 : Nat)]) [] := by
  have hp := mul64_parts x y hx hy
  obtain ⟨x0, hx0⟩ : ∃ x0, x0 = x % 2 ^ 32 := ⟨_, rfl⟩
  obtain ⟨x1, hx1⟩ : ∃ x1, x1 = x / 2 ^ 32 := ⟨_, rfl⟩
  obtain ⟨y0, hy0⟩ : ∃ y0, y0 = y % 2 ^ 32 := ⟨_, rfl⟩
  obtain ⟨y1, hy1⟩ : ∃ y1, y1 = y / 2 ^ 32 := ⟨_, rfl⟩
  have l1 : x0 < 2 ^ 32 := by omega
  have l2 : x1 < 2 ^ 32 := by omega
  have l3 : y0 < 2 ^ 32 := by omega
  have l4 : y1 < 2 ^ 32 := by omega
  have m1 := mul32_lt l1 l3
  have m2 := mul32_lt l2 l3
  have m3 := mul32_lt l1 l4
  have m4 := mul32_lt l2 l4
  have a1 : bitI .and .u64 (x : Int) 4294967295 = (x0 : Nat) := by
    have := bitI_and (k := .u64) rfl (a := x) (b := 4294967295) hx (by decide)
    rw [hx0, ← Nat.and_two_pow_sub_one_eq_mod]; exact this
  have a2 : bitI .and .u64 (y : Int) 4294967295 = (y0 : Nat) := by
    have := bitI_and (k := .u64) rfl (a := y) (b := 4294967295) hy (by decide)
    rw [hy0, ← Nat.and_two_pow_sub_one_eq_mod]; exact this
  have a3 : (x : Int).fdiv (2 ^ min 32 IntKind.u64.bits) = (x1 : Nat) := by rw [hx1]; exact shr_nat x 32
  have a4 : (y : Int).fdiv (2 ^ min 32 IntKind.u64.bits) = (y1 : Nat) := by rw [hy1]; exact shr_nat y 32
  rw [← hx0, ← hx1, ← hy0, ← hy1] at hp
  obtain ⟨A, hA⟩ : ∃ A, A = x0 * y0 := ⟨_, rfl⟩
  obtain ⟨B, hB⟩ : ∃ B, B = x1 * y0 := ⟨_, rfl⟩
  obtain ⟨C, hC⟩ : ∃ C, C = x0 * y1 := ⟨_, rfl⟩
  obtain ⟨D, hD⟩ : ∃ D, D = x1 * y1 := ⟨_, rfl⟩
  obtain ⟨Z, hZ⟩ : ∃ Z, Z = x * y := ⟨_, rfl⟩
  rw [← hA, ← hB, ← hC, ← hD, ← hZ] at hp
  rw [← hA] at m1
  rw [← hB] at m2
  rw [← hC] at m3
  rw [← hD] at m4
  have wr : ∀ n : Nat, n < 2 ^ 64 → IntKind.u64.wrap (n : Int) = (n : Nat) := fun n h => by rw [wrapu64, Nat.mod_eq_of_lt h]
  have b1 : IntKind.u64.wrap ((x0 : Int) * y0) = (A : Nat) := by rw [hA, ← Int.natCast_mul]; exact wr _ (by omega)
  have b2 : IntKind.u64.wrap ((x1 : Int) * y0) = (B : Nat) := by rw [hB, ← Int.natCast_mul]; exact wr _ (by omega)
  have b3 : IntKind.u64.wrap ((x0 : Int) * y1) = (C : Nat) := by rw [hC, ← Int.natCast_mul]; exact wr _ (by omega)
  have b4 : IntKind.u64.wrap ((x1 : Int) * y1) = (D : Nat) := by rw [hD, ← Int.natCast_mul]; exact wr _ (by omega)
  have sh : ∀ n : Nat, (n : Int).fdiv (2 ^ min 32 IntKind.u64.bits) = (n / 2 ^ 32 : Nat) := fun n => shr_nat n 32
  obtain ⟨t, ht⟩ : ∃ t, t = B + A / 2 ^ 32 := ⟨_, rfl⟩
  have c1 : IntKind.u64.wrap ((B : Int) + ((A / 2 ^ 32 : Nat) : Int)) = (t : Nat) := by rw [ht, ← Int.natCast_add]; exact wr _ (by omega)
  have c2 : bitI .and .u64 (t : Int) 4294967295 = (t % 2 ^ 32 : Nat) := by
    have := bitI_and (k := .u64) rfl (a := t) (b := 4294967295) (show t < 2 ^ 64 by omega) (by decide)
    rw [← Nat.and_two_pow_sub_one_eq_mod]; exact this
  obtain ⟨w, hw⟩ : ∃ w, w = t % 2 ^ 32 + C := ⟨_, rfl⟩
  have c3 : IntKind.u64.wrap (((t % 2 ^ 32 : Nat) : Int) + C) = (w : Nat) := by rw [hw, ← Int.natCast_add]; exact wr _ (by omega)
  have c4 : IntKind.u64.wrap ((D : Int) + ((t / 2 ^ 32 : Nat) : Int)) = ((D + t / 2 ^ 32 : Nat) : Int) := by rw [← Int.natCast_add]; exact wr _ (by omega)
  have c5 : IntKind.u64.wrap (((D + t / 2 ^ 32 : Nat) : Int) + ((w / 2 ^ 32 : Nat) : Int)) = ((D + t / 2 ^ 32 + w / 2 ^ 32 : Nat) : Int) := by rw [← Int.natCast_add]; exact wr _ (by omega)
  have c6 : IntKind.u64.wrap ((x : Int) * y) = (Z % 2 ^ 64 : Nat) := by rw [hZ, ← Int.natCast_mul, wrapu64]
  have c7 : D + t / 2 ^ 32 + w / 2 ^ 32 = Z / 2 ^ 64 := by omega
  rw [c7] at c5
  rw [← hZ]
  clear hp hx0 hx1 hy0 hy1 hA hB hC hD hZ m1 m2 m3 m4 c7
  refine FSpec.of_W fMul64_low (by simp) ?_
  simp only [initEnv]
  simp
  simp only [a1, a2, a3, a4, b1, b2, b3, b4, sh, c1, c2, c3, c4, c5, c6]
  exact fin_W (by simp)
theorem fFdReduced_spec (a : Nat) (ha : a < 2 ^ 256) : FSpec Try.prog 134 [.agg (q4 a)] [] (.agg (q4 (a % p25))) [] := by
  have hM := fFdModulus_spec
  have hp := p25_lt
  have hpos := p25_pos
  generalize p25 = p at *
  refine FSpec.of_W fFdReduced_low (by simp) ?_
  simp only [initEnv]
  simp
  refine W_loop (X := { v : Nat // v < 2 ^ 256 ∧ v % p = a % p }) (fun v => [(1, .ptr 0 0), (2, .ptr 1 0)]) (fun v => [some ⟨q4 v.1, 49, true⟩, some ⟨q4 0, 49, true⟩]) (fun v => v.1) ⟨a, ha, rfl⟩ retPost_le ?_ ?_
  · exact cut_w (by simp [q4_zero])
  · rintro ⟨v, hv, hr⟩
    simp only
    simp
    refine WO_callP [] rfl rfl hM (by simp) (by simp) ?_
    simp
    refine WO_callP [] rfl rfl (fFdLess_spec v p hv (by omega)) (by simp) (by simp) ?_
    simp
    refine WC_ndec (fun h => ?_) (fun h => ?_)
    · simp
      refine WO_callP [] rfl rfl hM (by simp) (by simp) ?_
      simp
      refine WO_callP [] rfl rfl (fFdMinus_spec v p (by omega)) (by simp) (by simp) ?_
      simp
      have hs : (v - p) % p = a % p := by rw [← hr, ← Nat.mod_eq_sub_mod (by omega)]
      refine ⟨⟨v - p, by omega, hs⟩, by simp; omega, ?_⟩
      exact cut_w (by simp)
    · simp
      rw [Nat.mod_eq_of_lt h] at hr
      rw [← hr]
      exact fin_W (by simp)
theorem q4_mod (n : Nat) : q4 (n % 115792089237316195423570985008687907853269984665640564039457584007913129639936) = q4 n := by
  have h : ∀ k, k < 4 → wd (n % 2 ^ 256) k = wd n k := fun k hk => by
    rw [wd, wd, show (256 : Nat) = 64 * k + (256 - 64 * k) by omega, Nat.pow_add, Nat.mod_mul_right_div_self, show 256 - 64 * k = 64 + (192 - 64 * k) by omega, Nat.pow_add, Nat.mod_mul_right_mod]
  have h0 := h 0 (by decide); have h1 := h 1 (by decide); have h2 := h 2 (by decide); have h3 := h 3 (by decide)
  simp only [q4]
  rw [show (115792089237316195423570985008687907853269984665640564039457584007913129639936 : Nat) = 2 ^ 256 from rfl, h0, h1, h2, h3]
theorem car_top {a b : Nat} (h : a < 2 ^ 256) (hb : b < 2 ^ 256) : (a + b) % 2 ^ 256 + 2 ^ 256 * car a b 4 = a + b := by
  simp only [car]
  rw [Nat.mod_eq_of_lt (show a < 2 ^ (64 * 4) from h), Nat.mod_eq_of_lt (show b < 2 ^ (64 * 4) from hb)]
  omega
theorem mod38 (a o : Nat) : (a + 2 ^ 256 * o) % p25 = (a + 38 * o) % p25 := by
  rw [show (2 : Nat) ^ 256 = 38 + p25 * 2 from rfl, Nat.add_mul, ← Nat.add_assoc, Nat.mul_assoc, Nat.add_mul_mod_self_left]
/-- So many times 2^256 over. -/
theorem fFdFolded_spec (a o : Nat) (ha : a < 2 ^ 256) (ho : o < 2 ^ 64) : FSpec Try.prog 114 [.agg (q4 a), .int .u64 (o : Nat)] [] (.agg (q4 ((a + 2 ^ 256 * o) % p25))) [] := by
  have h38 := mod38
  have hred := fFdReduced_spec
  have hp := p25_lt
  have hpos := p25_pos
  generalize p25 = p at *
  refine FSpec.of_W fFdFolded_low (by simp) ?_
  simp only [initEnv]
  simp
  refine W_loop (X := { v : Nat × Nat // v.1 < 2 ^ 256 ∧ v.2 < 2 ^ 64 ∧ (v.1 + 2 ^ 256 * v.2) % p = (a + 2 ^ 256 * o) % p }) (fun v => [(1, .int .u64 (v.1.2 : Nat)), (2, .ptr 0 0), (4, .ptr 1 0)]) (fun v => [some ⟨q4 v.1.1, 49, true⟩, some ⟨q4 0, 49, true⟩]) (fun v => v.1.1 + 2 ^ 256 * v.1.2) ⟨(a, o), ha, ho, rfl⟩ retPost_le ?_ ?_
  · exact cut_w (by simp [q4_zero])
  · rintro ⟨⟨v, u⟩, hv, hu, hr⟩
    simp only at hv hu hr ⊢
    simp
    refine WC_dec (fun h => ?_) (fun h => ?_)
    · have hu0 : 0 < u := by omega
      obtain ⟨m, hm⟩ : ∃ m, m = u * 38 := ⟨_, rfl⟩
      have hM := fMul64_spec u 38 hu (by decide)
      rw [← hm] at hM
      have e0 : m % 2 ^ 64 = wd m 0 := (wd0 m).symm
      have e1 : m / 2 ^ 64 = wd m 1 := by rw [wd1]; omega
      have e2 : wd m 2 = 0 := by rw [wd2, Nat.div_eq_of_lt (by omega)]
      have e3 : wd m 3 = 0 := by rw [wd3, Nat.div_eq_of_lt (by omega)]
      rw [e0, e1] at hM
      have s0 := add64_q v m 0
      have s1 := add64_q v m 1
      have s2 := add64_q v m 2
      have s3 := add64_q v m 3
      rw [car_zero] at s0
      rw [e2] at s2
      rw [e3] at s3
      have ht := car_top hv (show m < 2 ^ 256 by omega)
      have hc := car_le v m 4
      rw [show q4 v = mx 0 (v + m) v from rfl]
      simp
      refine WO_callP [] rfl rfl hM (by simp) (by simp) ?_
      simp
      refine WO_call rfl (s0 _) (by simp) ?_
      simp
      refine WO_call rfl (s1 _) (by simp) ?_
      simp
      refine WO_call rfl (s2 _) (by simp) ?_
      simp
      refine WO_call rfl (s3 _) (by simp) ?_
      simp
      have hn : ((v + m) % 2 ^ 256 + 2 ^ 256 * car v m 4) % p = (a + 2 ^ 256 * o) % p := by
        rw [ht, hm, ← hr, h38 v u, Nat.mul_comm]
      refine ⟨⟨((v + m) % 2 ^ 256, car v m 4), Nat.mod_lt _ (by decide), by simp only; omega, hn⟩, by simp only; omega, ?_⟩
      exact cut_w (by simp [mx_four, q4_mod])
    · obtain rfl : u = 0 := by omega
      rw [Nat.mul_zero, Nat.add_zero] at hr
      simp
      refine WO_callP [] rfl rfl (hred v hv) (by simp) (by simp) ?_
      rw [hr]
      simp
      exact fin_W (by simp)
end Go.Proofs.Ythgibibeoapfbaa

/-
  Field.
-/
namespace Go.Proofs.Ythgibibeoapfbaa
open Go Go.Fw
attribute [local simp] bv cleanL_bv toBytes_bv ltL_bv atF_drop WS_at_bytes W_nil W_skip W_seq W_reg W_draw W_drawP W_kill W_keep W_block W_blk W_exit W_ret WX_blk WX_c WX_lp WX_li W_li W_condT W_condF W_cond WC_true WC_false
  WR_nil WR_cons WR_o1 WR_o2 o1_chk o2_chk WR_grd WG_tt WG_ff WG_tf WG_ft WG_none WS_some WS_ok1 WSr_no WSr_some WSr_ok1 WSr_at_bytes WH_some WHA_some chkF_cons chkF_nil chkE_some chkE_ok1 chkE_at evF WO_mv WO_pick WO_bin WO_isNil WO_eqA WO_un WO_convI WO_toStr WO_ofStr WO_build WO_buildF WO_load WO_nilCheck WO_fieldAddr WO_field WO_idxA WO_idxS
  WO_ixA WO_slS WO_slA WO_len WO_lenK WO_appF WO_extract WO_s2a WO_iface WO_min WO_max WO_alloc WO_box WO_buildO WO_store WO_appO WO_copy WO_makeS WO_allocA WO_makeA WO_cvt cvtF_slice WO_look lookF_map alAF mkAF WO_func bind1_v bind2_v bindH_v bindH2_v bindS_v okO_v pickO_t pickO_f
  Env.keep Env.get Env.set Env.del Env.dels Env.setO Env.opd Env.opds Env.opdO Env.parts intF aggF fillA splice cleanL AV.clean bndF fldF_one fldF_many toStrF boxF buildOF
  loadF_rptr loadF_rptrN atF_zero atF_succ blk_cons_zero blk_cons_succ loadF_p loadF_pN atB_some atBN_some retPost resL one
  okc_bool cells_bool notStr_bool okc_int cells_int notStr_int okc_str cells_str notStr_str okc_nil cells_nil notStr_nil okc_ptr cells_ptr notStr_ptr okc_rptr cells_rptr notStr_rptr okc_slice cells_slice notStr_slice 
  okc_list cells_list notStr_list okc_func cells_func notStr_func okc_nilFunc cells_nilFunc notStr_nilFunc okc_iface cells_iface notStr_iface okc_nilIface cells_nilIface notStr_nilIface okc_agg cells_agg notStr_agg 
  okc_tuple cells_tuple notStr_tuple lenF_slice lenF_list lenF_str faF_ptr faF_rptr idxSF_slice idxSF_list idxAF_ptr idxAF_rptr ixAF_many ixAF_one convF_int unF_neg unF_xor unF_not nilF_0nil nilF_0ptr nilF_0rptr nilF_1 
  nilF_2nil nilF_2f nilF_3nil nilF_3f binF_int binF_beq binF_bne binF_sadd binF_seq binF_sne sliceCells_list sliceCells_str sliceCells_slice cutC_some szAV_list szAV_str szAV_slice oneSl_list oneSl_slice slSF_sliceS 
  slSF_sliceN slSF_list slAF_rptr slAF_ptr appFF_list appOF_list appOF_sliceN appOF_sliceS storeF_ptr copyF_slice extF_tuple s2aF_slice s2aF_list nchkF_ptr nchkF_rptr nchkF_f mmF_int ofStrF_str mkSF_int eqAF_agg
attribute [local irreducible] W WX WR WO WS WSr WH WHA WG WC FSpec
attribute [local simp] lendAll
attribute [local congr] W_cg WR_cg WO_cg WS_cg WSr_cg WH_cg WHA_cg WG_cg WC_cg WX_cg
attribute [local simp] Env.has AV.wkr wkrL AV.wkr_refl wkrL_refl AV.ltI ltL leHW hasW Env.lt AV.ids idsL AV.sub subL AV.ren AV.frz frzS frzP frzE frzL Heap.frz Blk.frz Blk.ren renL rnS rnP hasR leR idsL_bv subL_bv
attribute [local simp] cleanL_take cleanL_drop ltL_take ltL_drop idsL_take idsL_drop subL_take subL_drop cleanL_append ltL_append idsL_append subL_append
attribute [local simp] renE mvN mvH
attribute [local simp] fwd backH putL bwd
attribute [local simp] u8i u8e List.idxOf_cons
attribute [local simp] hasRW leRW
attribute [local simp] WS_at_q4 WSr_at_q4 WS_at_mx mx_set' loadWP splice_full Int.natCast_inj WS_at_arr WSr_at_arr arr_set
theorem vb_zero : ∀ m, vb (fun _ => 0) m = 0
  | 0 => rfl
  | m + 1 => by rw [vb, vb_zero m, Nat.zero_mul]
/-- One step of a product: a word times a word, and what is there, and what goes over. -/
theorem step_lt {x y w o : Nat} (hx : x < 2 ^ 64) (hy : y < 2 ^ 64) (hw : w < 2 ^ 64) (ho : o < 2 ^ 64) : x * y + w + o < 2 ^ 128 := by
  have := Nat.mul_le_mul (show x ≤ 2 ^ 64 - 1 by omega) (show y ≤ 2 ^ 64 - 1 by omega)
  omega
theorem step_hi {z w o : Nat} : (z / 2 ^ 64 + ((z % 2 ^ 64 + w) / 2 ^ 64)) + (((z % 2 ^ 64 + w) % 2 ^ 64 + o) / 2 ^ 64) = (z + w + o) / 2 ^ 64 := by omega
theorem step_lo {z w o : Nat} : ((z % 2 ^ 64 + w) % 2 ^ 64 + o) % 2 ^ 64 = (z + w + o) % 2 ^ 64 := by omega
set_option maxHeartbeats 1000000 in
theorem fFdTimes_spec (a b : Nat) (ha : a < 2 ^ 256) (hb : b < 2 ^ 256) : FSpec Try.prog 113 [.agg (q4 a), .agg (q4 b)] [] (.agg (q4 (a * b % p25))) [] := by
  have hfold := fFdFolded_spec
  have h38 := mod38
  generalize p25 = p at *
  have top4 : ∀ n k : Nat, n < 2 ^ 256 → k = 4 → n % 2 ^ (64 * k) = n := fun n k hn hk => by rw [hk]; exact Nat.mod_eq_of_lt hn
  have hb4 := fun k => top4 b k hb
  have ha4 := fun k => top4 a k ha
  refine FSpec.of_W fFdTimes_low (by simp) ?_
  simp only [initEnv]
  simp
  refine W_loop (X := { v : Nat × (Nat → Nat) // v.1 ≤ 4 ∧ (∀ j, j < 8 → v.2 j < 2 ^ 64) ∧ (∀ j, v.1 + 4 ≤ j → j < 8 → v.2 j = 0) ∧ vb v.2 8 = (a % 2 ^ (64 * v.1)) * b })
    (fun v => [(3, .ptr 1 0), (4, .ptr 2 0), (5, .ptr 3 0), (22, .agg (q4 a)), (23, .int .i64 v.1.1)])
    (fun v => [some ⟨q4 a, 49, true⟩, some ⟨q4 b, 49, true⟩, some ⟨q4 0, 49, true⟩, some ⟨arr .u64 8 v.1.2, 180, true⟩])
    (fun v => 4 - v.1.1) ⟨(0, fun _ => 0), by simp, fun _ _ => by simp, fun _ _ _ => rfl, by rw [vb_zero, Nat.mul_zero, Nat.pow_zero, Nat.mod_one, Nat.zero_mul]⟩ retPost_le ?_ ?_
  · have hz8 : arr .u64 8 (fun _ => 0) = [.int .u64 0, .int .u64 0, .int .u64 0, .int .u64 0, .int .u64 0, .int .u64 0, .int .u64 0, .int .u64 0] := rfl
    exact cut_w (by simp [q4_zero, hz8])
  · rintro ⟨⟨i, g⟩, hi, hg, hz, hv⟩
    simp only at hi hg hz hv ⊢
    simp
    refine WC_dec (fun h => ?_) (fun h => ?_)
    · have h4 : i < 4 := by omega
      simp [h4]
      refine ⟨by omega, ?_⟩
      obtain ⟨x, hx⟩ : ∃ x, x = wd a i := ⟨_, rfl⟩
      have hx64 : x < 2 ^ 64 := by rw [hx]; exact wd_lt a i
      rw [← hx]
      refine W_loop (X := { v : Nat × (Nat → Nat) × Nat // v.1 ≤ 4 ∧ (∀ j, j < 8 → v.2.1 j < 2 ^ 64) ∧ v.2.2 < 2 ^ 64 ∧ (∀ j, i + 4 ≤ j → j < 8 → v.2.1 j = 0) ∧ vb v.2.1 8 + v.2.2 * 2 ^ (64 * (i + v.1)) = (a % 2 ^ (64 * i)) * b + x * (b % 2 ^ (64 * v.1)) * 2 ^ (64 * i) })
        (fun v => [(3, .ptr 1 0), (4, .ptr 2 0), (5, .ptr 3 0), (6, .int .i64 i), (7, .int .u64 (x : Nat)), (8, .int .u64 (v.1.2.2 : Nat)), (22, .agg (q4 a)), (23, .int .i64 i), (27, .agg (q4 b)), (28, .int .i64 v.1.1)])
        (fun v => [some ⟨q4 a, 49, true⟩, some ⟨q4 b, 49, true⟩, some ⟨q4 0, 49, true⟩, some ⟨arr .u64 8 v.1.2.1, 180, true⟩])
        (fun v => 4 - v.1.1) ⟨(0, g, 0), by simp, hg, by simp, hz, by simp [Nat.mod_one, hv]⟩ retPost_le ?_ ?_
      · exact cut_w (by simp)
      · rintro ⟨⟨k, g', o⟩, hk, hg', ho, hz', hv'⟩
        simp only at hk hg' ho hz' hv' ⊢
        simp
        refine WC_dec (fun h => ?_) (fun h => ?_)
        · have k4 : k < 4 := by omega
          obtain ⟨y, hy⟩ : ∃ y, y = wd b k := ⟨_, rfl⟩
          have hy64 : y < 2 ^ 64 := by rw [hy]; exact wd_lt b k
          have hM := fMul64_spec x y hx64 hy64
          obtain ⟨w, hw⟩ : ∃ w, w = g' (i + k) := ⟨_, rfl⟩
          have hw64 : w < 2 ^ 64 := by rw [hw]; exact hg' _ (by omega)
          have hs := step_lt hx64 hy64 hw64 ho
          obtain ⟨z, hz0⟩ : ∃ z, z = x * y := ⟨_, rfl⟩
          rw [← hz0] at hM hs
          have hsh := step_hi (z := z) (w := w) (o := o)
          have hsl := step_lo (z := z) (w := w) (o := o)
          have A1 := add64_p (z % 2 ^ 64) w
          have A2 := add64_p ((z % 2 ^ 64 + w) % 2 ^ 64) o
          obtain ⟨h1, hh1⟩ : ∃ h1, h1 = z / 2 ^ 64 := ⟨_, rfl⟩
          obtain ⟨l1, hl1⟩ : ∃ l1, l1 = z % 2 ^ 64 := ⟨_, rfl⟩
          rw [← hh1, ← hl1] at hM
          rw [← hl1] at A1 A2 hsh hsl
          rw [← hh1] at hsh
          obtain ⟨c, hc⟩ : ∃ c, c = (l1 + w) / 2 ^ 64 := ⟨_, rfl⟩
          obtain ⟨l2, hl2⟩ : ∃ l2, l2 = (l1 + w) % 2 ^ 64 := ⟨_, rfl⟩
          rw [← hl2] at A1 A2 hsh hsl
          rw [← hc] at A1 hsh
          obtain ⟨d, hd⟩ : ∃ d, d = (l2 + o) / 2 ^ 64 := ⟨_, rfl⟩
          obtain ⟨l3, hl3⟩ : ∃ l3, l3 = (l2 + o) % 2 ^ 64 := ⟨_, rfl⟩
          rw [← hd] at A2 hsh
          rw [← hl3] at A2 hsl
          have w1 : IntKind.i64.wrap ((i : Int) + k) = (i : Int) + k := wrap64s (by omega) (by omega)
          have w2 : ((i : Int) + k).toNat = i + k := by omega
          have w3 : IntKind.u64.wrap ((h1 : Int) + c) = ((h1 + c : Nat) : Int) := by rw [← Int.natCast_add, wrapu64, Nat.mod_eq_of_lt (by omega)]
          have w4 : IntKind.u64.wrap (((h1 + c : Nat) : Int) + d) = ((h1 + c + d : Nat) : Int) := by rw [← Int.natCast_add, wrapu64, Nat.mod_eq_of_lt (by omega)]
          obtain ⟨u, hu⟩ : ∃ u, u = h1 + c := ⟨_, rfl⟩
          obtain ⟨v, hv1⟩ : ∃ v, v = u + d := ⟨_, rfl⟩
          rw [← hu] at w3 w4 hsh
          rw [← hv1] at w4 hsh
          simp [k4]
          refine ⟨by omega, ?_⟩
          rw [← hy]
          refine WO_callP [] rfl rfl hM (by simp) (by simp) ?_
          simp [w1, w2]
          refine ⟨by omega, by omega, ?_⟩
          rw [← hw]
          refine WO_call rfl (A1 _) (by simp) ?_
          simp
          refine WO_call rfl (A2 _) (by simp) ?_
          simp [w1, w2, w3, w4]
          refine ⟨by omega, by omega, ⟨(k + 1, upd g' (i + k) l3, v), by simp only; omega, upd_lt hg' (by omega), by simp only; omega, fun j j1 j2 => ?_, ?_⟩, by simp only; omega, cut_w ?_⟩
          · simp only [upd]
            rw [if_neg (by omega)]
            exact hz' j j1 j2
          · simp only
            have E1 := vb_upd (g := g') (i := i + k) (v := l3) (m := 8) (by omega)
            rw [← hw] at E1
            have E2 : l3 + 2 ^ 64 * v = z + w + o := by omega
            rw [mod_next, ← hy]
            have E3 : x * (b % 2 ^ (64 * k) + 2 ^ (64 * k) * y) * 2 ^ (64 * i) = x * (b % 2 ^ (64 * k)) * 2 ^ (64 * i) + z * 2 ^ (64 * (i + k)) := by
              rw [hz0, Nat.mul_add, Nat.add_mul, show 64 * (i + k) = 64 * k + 64 * i by omega, Nat.pow_add]
              congr 1
              ac_rfl
            have E4 : v * 2 ^ (64 * (i + (k + 1))) = 2 ^ 64 * v * 2 ^ (64 * (i + k)) := by
              rw [show 64 * (i + (k + 1)) = 64 + 64 * (i + k) by omega, Nat.pow_add]; ac_rfl
            rw [E3, E4]
            have E5 := congrArg (· * 2 ^ (64 * (i + k))) E2
            simp only [Nat.add_mul] at E5
            omega
          · have w5 : IntKind.i64.wrap ((k : Int) + 1) = (k : Int) + 1 := wrap64s (by omega) (by omega)
            simp [w5]
        · have hk4 : k = 4 := by omega
          rw [hb4 k hk4] at hv'
          subst hk4
          have w1 : IntKind.i64.wrap ((i : Int) + 4) = (i : Int) + 4 := wrap64s (by omega) (by omega)
          have w2 : ((i : Int) + 4).toNat = i + 4 := by omega
          simp [w1, w2]
          refine ⟨by omega, by omega, ⟨(i + 1, upd g' (i + 4) o), by simp only; omega, upd_lt hg' ho, fun j j1 j2 => ?_, ?_⟩, by simp only; omega, cut_w ?_⟩
          · simp only [upd]
            rw [if_neg (by omega)]
            exact hz' j (by omega) j2
          · simp only
            have E1 := vb_upd (g := g') (i := i + 4) (v := o) (m := 8) (by omega)
            rw [hz' (i + 4) (by omega) (by omega), Nat.zero_mul, Nat.add_zero] at E1
            refine E1.trans (hv'.trans ?_)
            rw [mod_next, ← hx, Nat.add_mul]
            have E3 : 2 ^ (64 * i) * x * b = x * b * 2 ^ (64 * i) := by ac_rfl
            rw [E3]
          · have w5 : IntKind.i64.wrap ((i : Int) + 1) = (i : Int) + 1 := wrap64s (by omega) (by omega)
            simp [w5]
    · have hi4 : i = 4 := by omega
      rw [ha4 i hi4] at hv
      simp
      have hsp := vb_split g 4 4
      rw [hv] at hsp
      obtain ⟨lo, hlo⟩ : ∃ lo, lo = vb g 4 := ⟨_, rfl⟩
      obtain ⟨hh, hhh⟩ : ∃ hh, hh = vb (fun k => g (4 + k)) 4 := ⟨_, rfl⟩
      rw [← hlo, ← hhh] at hsp
      have hfin : (lo + 38 * hh) % p = a * b % p := by
        rw [hsp, show 64 * 4 = 256 from rfl, h38]
      clear hsp hv hz
      refine W_loop (X := { v : Nat × (Nat → Nat) × Nat // v.1 ≤ 4 ∧ (∀ j, j < 4 → v.2.1 j < 2 ^ 64) ∧ v.2.2 < 2 ^ 64 ∧ vb v.2.1 v.1 + v.2.2 * 2 ^ (64 * v.1) = vb g v.1 + 38 * vb (fun k => g (4 + k)) v.1 })
        (fun v => [(4, .ptr 2 0), (5, .ptr 3 0), (15, .ptr 4 0), (16, .int .u64 (v.1.2.2 : Nat)), (70, .int .i64 v.1.1)])
        (fun v => [some ⟨q4 a, 49, true⟩, some ⟨q4 b, 49, true⟩, some ⟨q4 0, 49, true⟩, some ⟨arr .u64 8 g, 180, true⟩, some ⟨arr .u64 4 v.1.2.1, 49, true⟩])
        (fun v => 4 - v.1.1) ⟨(0, fun _ => 0, 0), by simp, fun _ _ => by simp, by simp, by simp [vb]⟩ retPost_le ?_ ?_
      · have hz4 : arr .u64 4 (fun _ => 0) = [.int .u64 0, .int .u64 0, .int .u64 0, .int .u64 0] := rfl
        exact cut_w (by simp [hz4])
      · rintro ⟨⟨k, h, o⟩, hk, hh', ho, hv'⟩
        simp only at hk hh' ho hv' ⊢
        simp
        refine WC_dec (fun hlt => ?_) (fun hlt => ?_)
        · have k4 : k < 4 := by omega
          obtain ⟨x, hx⟩ : ∃ x, x = g (4 + k) := ⟨_, rfl⟩
          obtain ⟨w, hw⟩ : ∃ w, w = g k := ⟨_, rfl⟩
          have hx64 : x < 2 ^ 64 := by rw [hx]; exact hg _ (by omega)
          have hw64 : w < 2 ^ 64 := by rw [hw]; exact hg _ (by omega)
          have hM := fMul64_spec x 38 hx64 (by decide)
          have hs := step_lt hx64 (show 38 < 2 ^ 64 by decide) hw64 ho
          obtain ⟨z, hz0⟩ : ∃ z, z = x * 38 := ⟨_, rfl⟩
          rw [← hz0] at hM hs
          have hsh := step_hi (z := z) (w := w) (o := o)
          have hsl := step_lo (z := z) (w := w) (o := o)
          have A1 := add64_p (z % 2 ^ 64) w
          have A2 := add64_p ((z % 2 ^ 64 + w) % 2 ^ 64) o
          obtain ⟨h1, hh1⟩ : ∃ h1, h1 = z / 2 ^ 64 := ⟨_, rfl⟩
          obtain ⟨l1, hl1⟩ : ∃ l1, l1 = z % 2 ^ 64 := ⟨_, rfl⟩
          rw [← hh1, ← hl1] at hM
          rw [← hl1] at A1 A2 hsh hsl
          rw [← hh1] at hsh
          obtain ⟨c, hc⟩ : ∃ c, c = (l1 + w) / 2 ^ 64 := ⟨_, rfl⟩
          obtain ⟨l2, hl2⟩ : ∃ l2, l2 = (l1 + w) % 2 ^ 64 := ⟨_, rfl⟩
          rw [← hl2] at A1 A2 hsh hsl
          rw [← hc] at A1 hsh
          obtain ⟨d, hd⟩ : ∃ d, d = (l2 + o) / 2 ^ 64 := ⟨_, rfl⟩
          obtain ⟨l3, hl3⟩ : ∃ l3, l3 = (l2 + o) % 2 ^ 64 := ⟨_, rfl⟩
          rw [← hd] at A2 hsh
          rw [← hl3] at A2 hsl
          have w1 : IntKind.i64.wrap ((k : Int) + 4) = (k : Int) + 4 := wrap64s (by omega) (by omega)
          have w2 : ((k : Int) + 4).toNat = 4 + k := by omega
          have w3 : IntKind.u64.wrap ((h1 : Int) + c) = ((h1 + c : Nat) : Int) := by rw [← Int.natCast_add, wrapu64, Nat.mod_eq_of_lt (by omega)]
          have w4 : IntKind.u64.wrap (((h1 + c : Nat) : Int) + d) = ((h1 + c + d : Nat) : Int) := by rw [← Int.natCast_add, wrapu64, Nat.mod_eq_of_lt (by omega)]
          obtain ⟨u, hu⟩ : ∃ u, u = h1 + c := ⟨_, rfl⟩
          obtain ⟨v, hv1⟩ : ∃ v, v = u + d := ⟨_, rfl⟩
          rw [← hu] at w3 w4 hsh
          rw [← hv1] at w4 hsh
          simp [k4, w1, w2]
          refine ⟨by omega, by omega, ?_⟩
          rw [← hx]
          refine WO_callP [] rfl rfl hM (by simp) (by simp) ?_
          simp
          refine ⟨by omega, by omega, ?_⟩
          rw [← hw]
          refine WO_call rfl (A1 _) (by simp) ?_
          simp
          refine WO_call rfl (A2 _) (by simp) ?_
          simp [w3, w4]
          refine ⟨by omega, by omega, ⟨(k + 1, upd h k l3, v), by simp only; omega, upd_lt hh' (by omega), by simp only; omega, ?_⟩, by simp only; omega, cut_w ?_⟩
          · simp only [vb]
            rw [vb_upd_out (Nat.le_refl _), ← hx, ← hw]
            have E2 : l3 + 2 ^ 64 * v = z + w + o := by omega
            have E4 : v * 2 ^ (64 * (k + 1)) = 2 ^ 64 * v * 2 ^ (64 * k) := by
              rw [show 64 * (k + 1) = 64 + 64 * k by omega, Nat.pow_add]; ac_rfl
            have E5 := congrArg (· * 2 ^ (64 * k)) E2
            simp only [Nat.add_mul] at E5
            have E6 : upd h k l3 k = l3 := if_pos rfl
            have E7 : z * 2 ^ (64 * k) = 38 * (x * 2 ^ (64 * k)) := by rw [hz0]; ac_rfl
            rw [E4, E6]
            omega
          · have w5 : IntKind.i64.wrap ((k : Int) + 1) = (k : Int) + 1 := wrap64s (by omega) (by omega)
            simp [w5]
        · have hk4 : k = 4 := by omega
          rw [hk4] at hv'
          rw [← hlo, ← hhh] at hv'
          have hF := hfold (vb h 4) o (vb_lt hh') ho
          rw [Nat.mul_comm (2 ^ 256) o] at hF
          have hv2 : vb h 4 + o * 2 ^ 256 = lo + 38 * hh := hv'
          rw [hv2, hfin] at hF
          rw [q4_vb hh']
          subst hk4
          simp
          refine WO_callP [] rfl rfl hF (by simp) (by simp) ?_
          simp
          exact fin_W (by simp)
theorem fFdOdd_spec (a : Nat) : FSpec Try.prog 83 [.agg (q4 a)] [] (.bool (decide (a % 2 = 1))) [] := by
  have h1 := and1_u64 (wd_lt a 0)
  have h2 : wd a 0 % 2 = a % 2 := by rw [wd0]; omega
  rw [h2] at h1
  obtain ⟨r, hr⟩ : ∃ r, r = a % 2 := ⟨_, rfl⟩
  rw [← hr] at h1 ⊢
  refine FSpec.of_W fFdOdd_low (by simp) ?_
  simp only [initEnv]
  simp [h1]
  exact fin_W (by simp; omega)
theorem fFdNeg_spec (a : Nat) (ha : a < p25) : FSpec Try.prog 69 [.agg (q4 a)] [] (.agg (q4 (negP a))) [] := by
  have hM := fFdModulus_spec
  have hp := p25_lt
  simp only [negP]
  generalize p25 = p at *
  have hm := fFdMinus_spec p a (by omega)
  refine FSpec.of_W fFdNeg_low (by simp) ?_
  simp only [initEnv]
  simp
  rw [← q4_zero]
  refine ⟨hasK_q4 0, ?_⟩
  refine WC_dec (fun h => ?_) (fun h => ?_)
  · rw [ints_q4 (m := a) (n := 0) (by omega) (by decide)] at h
    rw [if_pos h]
    simp
    exact fin_W (by simp [h])
  · rw [ints_q4 (m := a) (n := 0) (by omega) (by decide)] at h
    rw [if_neg h]
    simp
    refine WO_callP [] rfl rfl hM (by simp) (by simp) ?_
    simp
    refine WO_callP [] rfl rfl hm (by simp) (by simp) ?_
    simp
    exact fin_W (by simp)
/-! Elements as cells. -/
def els1 (x : Nat) : List AV := q4 x
def els (l : List Nat) : List AV := l.flatMap els1
@[simp] theorem els_nil : els [] = [] := rfl
@[simp] theorem els_cons (x : Nat) (l : List Nat) : els (x :: l) = els1 x ++ els l := by simp [els]
@[simp] theorem els1_length (x : Nat) : (els1 x).length = 4 := rfl
@[simp] theorem els_length (l : List Nat) : (els l).length = l.length * 4 := by
  induction l with
  | nil => rfl
  | cons i l ih => simp [ih]; omega
@[simp] theorem els_drop (l : List Nat) (i : Nat) : (els l).drop (i * 4) = els (l.drop i) := by
  induction l generalizing i with
  | nil => simp
  | cons x l ih =>
    cases i with
    | zero => simp
    | succ i => rw [els_cons, List.drop_succ_cons, ← ih i, show (i + 1) * 4 = (els1 x).length + i * 4 by rw [els1_length]; omega, List.drop_length_add_append]
@[simp] theorem els_take (l : List Nat) (i : Nat) : (els l).take (i * 4) = els (l.take i) := by
  induction l generalizing i with
  | nil => simp
  | cons x l ih =>
    cases i with
    | zero => simp
    | succ i => rw [els_cons, List.take_succ_cons, els_cons, ← ih i, show (i + 1) * 4 = (els1 x).length + i * 4 by rw [els1_length]; omega, List.take_length_add_append]
@[simp] theorem ltL_els (n : Nat) (l : List Nat) : ltL n (els l) = true := ltL_flatMap _ fun x => by simp [els1]
@[simp] theorem ids_els (q : Nat → Bool) (l : List Nat) : idsL q (els l) = true := idsL_flatMap _ fun x => by simp [els1]
@[simp] theorem sub_els (s : Nat → Nat → Nat → Nat → Option Nat → AV) (p : Nat → Nat → AV) (l : List Nat) : subL s p (els l) = els l := subL_flatMap _ fun x => by simp [els1]
@[simp] theorem cleanL_els (l : List Nat) : cleanL (els l) = true := cleanL_flatMap _ fun x => by simp [els1]
theorem sum_take (l : List Nat) (i : Nat) (h : i < l.length) : (l.take (i + 1)).sum = (l.take i).sum + l[i] := by
  rw [List.take_add_one, List.getElem?_eq_getElem h, Option.toList_some, List.sum_append, List.sum_singleton]
theorem fFdAdd_spec (l : List Nat) (md : Md) (h : ∀ x ∈ l, x < 2 ^ 255) (hl : l.length < 2 ^ 40) : FSpec Try.prog 65 [.list 4 md (els l)] [] (.agg (q4 (l.sum % p25))) [] := by
  have hF := fFdFolded_spec
  have hp := p25_lt
  have hpos := p25_pos
  generalize p25 = p at *
  refine FSpec.of_W fFdAdd_low (by simp) ?_
  simp only [initEnv]
  simp
  refine W_loop (X := { i : Nat // i ≤ l.length }) (fun i => [(2, .ptr 0 0), (3, .ptr 1 0), (8, .list 4 md (els l)), (9, .int .i64 l.length), (10, .int .i64 i.1)])
    (fun i => [some ⟨q4 0, 49, true⟩, some ⟨q4 ((l.take i.1).sum % p), 49, true⟩]) (fun i => l.length - i.1) ⟨0, by simp⟩ retPost_le ?_ ?_
  · refine cut_w ?_
    simp [q4_zero]
  · rintro ⟨i, hi⟩
    simp only
    simp
    refine WC_dec (fun hlt => ?_) (fun hlt => ?_)
    · have hx : i < l.length := by omega
      have hd : l.drop i = l[i] :: l.drop (i + 1) := List.drop_eq_getElem_cons hx
      have hsum := sum_take l i hx
      have hxl := h l[i] (List.getElem_mem hx)
      obtain ⟨x, hxe⟩ : ∃ x, x = l[i] := ⟨_, rfl⟩
      rw [← hxe] at hd hsum hxl
      obtain ⟨s, hs⟩ : ∃ s, s = (l.take i).sum % p := ⟨_, rfl⟩
      have hs2 : s < 2 ^ 255 := by rw [hs]; have := Nat.mod_lt (l.take i).sum hpos; omega
      rw [← hs]
      simp [hd, els1, List.take_append]
      refine ⟨hx, ?_⟩
      refine W_loop (X := { j : Nat // j ≤ 4 }) (fun j => [(2, .ptr 0 0), (3, .ptr 1 0), (5, .ptr 2 0), (6, .int .u64 (car s x j.1 : Nat)), (8, .list 4 md (els l)), (9, .int .i64 l.length), (10, .int .i64 i), (14, .int .i64 j.1)])
        (fun j => [some ⟨q4 0, 49, true⟩, some ⟨mx j.1 (s + x) s, 49, true⟩, some ⟨q4 x, 49, true⟩]) (fun j => 4 - j.1) ⟨0, by omega⟩ retPost_le ?_ ?_
      · exact cut_w (by simp [car_zero, mx_zero])
      · rintro ⟨j, hj⟩
        simp only
        simp
        refine WC_dec (fun hl => ?_) (fun hl => ?_)
        · have h4 : j < 4 := by omega
          simp [h4, hl]
          refine WO_call rfl (add64_q s x j _) (by simp) ?_
          simp [h4, hl]
          refine ⟨by omega, ⟨j + 1, by omega⟩, by simp; omega, ?_⟩
          exact cut_w (by simp [wrap64s (n := (j : Int) + 1) (by omega) (by omega)])
        · have h4 : j = 4 := by omega
          subst h4
          have hf := hF ((s + x) % 2 ^ 256) (car s x 4) (Nat.mod_lt _ (by decide)) (by have := car_le s x 4; omega)
          rw [car_top (show s < 2 ^ 256 by omega) (show x < 2 ^ 256 by omega), show (2 : Nat) ^ 256 = 115792089237316195423570985008687907853269984665640564039457584007913129639936 from rfl, q4_mod] at hf
          have hse : (s + x) % p = (l.take (i + 1)).sum % p := by rw [hsum, hs, Nat.mod_add_mod]
          rw [hse] at hf
          simp [mx_four]
          refine WO_callP [] rfl rfl hf (by simp) (by simp) ?_
          simp
          refine ⟨⟨i + 1, hx⟩, by simp; omega, cut_w ?_⟩
          simp [wrap64s (n := (i : Int) + 1) (by omega) (by omega)]
    · have : i = l.length := by omega
      subst this
      simp [List.take_of_length_le]
      exact fin_W (by simp)
def mulP (l : List Nat) : Nat := l.foldl (fun x y => x * y % p25) 1
theorem mulP_lt (l : List Nat) : mulP l < p25 := by
  have : ∀ (l : List Nat) (a : Nat), a < p25 → l.foldl (fun x y => x * y % p25) a < p25 := by
    intro l
    induction l with
    | nil => intro a h; exact h
    | cons x l ih => intro a h; exact ih _ (Nat.mod_lt _ p25_pos)
  exact this l 1 (by decide)
theorem mulP_take (l : List Nat) (i : Nat) (h : i < l.length) : mulP (l.take (i + 1)) = mulP (l.take i) * l[i] % p25 := by
  unfold mulP
  rw [List.take_add_one, List.getElem?_eq_getElem h, Option.toList_some, List.foldl_append]
  rfl
theorem fFdMul_spec (l : List Nat) (md : Md) (h : ∀ x ∈ l, x < 2 ^ 255) (hl : l.length < 2 ^ 40) : FSpec Try.prog 63 [.list 4 md (els l)] [] (.agg (q4 (mulP l))) [] := by
  have hp := p25_lt
  have hS := fFdSmall_spec 1 (by decide)
  refine FSpec.of_W fFdMul_low (by simp) ?_
  simp only [initEnv]
  simp
  refine WO_callP [] rfl rfl hS (by simp) (by simp) ?_
  simp
  refine W_loop (X := { i : Nat // i ≤ l.length }) (fun i => [(2, .ptr 0 0), (3, .ptr 1 0), (7, .list 4 md (els l)), (8, .int .i64 l.length), (9, .int .i64 i.1)])
    (fun i => [some ⟨q4 0, 49, true⟩, some ⟨q4 (mulP (l.take i.1)), 49, true⟩]) (fun i => l.length - i.1) ⟨0, by simp⟩ retPost_le ?_ ?_
  · refine cut_w ?_
    simp [q4_zero, mulP]
  · rintro ⟨i, hi⟩
    simp only
    simp
    refine WC_dec (fun hlt => ?_) (fun hlt => ?_)
    · have hx : i < l.length := by omega
      have hd : l.drop i = l[i] :: l.drop (i + 1) := List.drop_eq_getElem_cons hx
      have hm := mulP_take l i hx
      have hml := mulP_lt (l.take i)
      have hxl := h l[i] (List.getElem_mem hx)
      obtain ⟨x, hxe⟩ : ∃ x, x = l[i] := ⟨_, rfl⟩
      rw [← hxe] at hd hm hxl
      have hT := fFdTimes_spec (mulP (l.take i)) x (by omega) (by omega)
      rw [← hm] at hT
      simp [hd, els1, List.take_append]
      refine ⟨hx, ?_⟩
      refine WO_callP [] rfl rfl hT (by simp) (by simp) ?_
      simp
      refine ⟨⟨i + 1, hx⟩, by simp; omega, cut_w ?_⟩
      simp [wrap64s (n := (i : Int) + 1) (by omega) (by omega)]
    · have : i = l.length := by omega
      subst this
      simp [List.take_of_length_le]
      exact fin_W (by simp)
end Go.Proofs.Ythgibibeoapfbaa

/-
  Field.
-/
namespace Go.Proofs.Ythgibibeoapfbaa
open Go Go.Fw
attribute [local simp] bv cleanL_bv toBytes_bv ltL_bv atF_drop WS_at_bytes W_nil W_skip W_seq W_reg W_draw W_drawP W_kill W_keep W_block W_blk W_exit W_ret WX_blk WX_c WX_lp WX_li W_li W_condT W_condF W_cond WC_true WC_false
  WR_nil WR_cons WR_o1 WR_o2 o1_chk o2_chk WR_grd WG_tt WG_ff WG_tf WG_ft WG_none WS_some WS_ok1 WSr_no WSr_some WSr_ok1 WSr_at_bytes WH_some WHA_some chkF_cons chkF_nil chkE_some chkE_ok1 chkE_at evF WO_mv WO_pick WO_bin WO_isNil WO_eqA WO_un WO_convI WO_toStr WO_ofStr WO_build WO_buildF WO_load WO_nilCheck WO_fieldAddr WO_field WO_idxA WO_idxS
  WO_ixA WO_slS WO_slA WO_len WO_lenK WO_appF WO_extract WO_s2a WO_iface WO_min WO_max WO_alloc WO_box WO_buildO WO_store WO_appO WO_copy WO_makeS WO_allocA WO_makeA WO_cvt cvtF_slice WO_look lookF_map alAF mkAF WO_func bind1_v bind2_v bindH_v bindH2_v bindS_v okO_v pickO_t pickO_f
  Env.keep Env.get Env.set Env.del Env.dels Env.setO Env.opd Env.opds Env.opdO Env.parts intF aggF fillA splice cleanL AV.clean bndF fldF_one fldF_many toStrF boxF buildOF
  loadF_rptr loadF_rptrN atF_zero atF_succ blk_cons_zero blk_cons_succ loadF_p loadF_pN atB_some atBN_some retPost resL one
  okc_bool cells_bool notStr_bool okc_int cells_int notStr_int okc_str cells_str notStr_str okc_nil cells_nil notStr_nil okc_ptr cells_ptr notStr_ptr okc_rptr cells_rptr notStr_rptr okc_slice cells_slice notStr_slice 
  okc_list cells_list notStr_list okc_func cells_func notStr_func okc_nilFunc cells_nilFunc notStr_nilFunc okc_iface cells_iface notStr_iface okc_nilIface cells_nilIface notStr_nilIface okc_agg cells_agg notStr_agg 
  okc_tuple cells_tuple notStr_tuple lenF_slice lenF_list lenF_str faF_ptr faF_rptr idxSF_slice idxSF_list idxAF_ptr idxAF_rptr ixAF_many ixAF_one convF_int unF_neg unF_xor unF_not nilF_0nil nilF_0ptr nilF_0rptr nilF_1 
  nilF_2nil nilF_2f nilF_3nil nilF_3f binF_int binF_beq binF_bne binF_sadd binF_seq binF_sne sliceCells_list sliceCells_str sliceCells_slice cutC_some szAV_list szAV_str szAV_slice oneSl_list oneSl_slice slSF_sliceS 
  slSF_sliceN slSF_list slAF_rptr slAF_ptr appFF_list appOF_list appOF_sliceN appOF_sliceS storeF_ptr copyF_slice extF_tuple s2aF_slice s2aF_list nchkF_ptr nchkF_rptr nchkF_f mmF_int ofStrF_str mkSF_int eqAF_agg
attribute [local irreducible] W WX WR WO WS WSr WH WHA WG WC FSpec
attribute [local simp] lendAll
attribute [local congr] W_cg WR_cg WO_cg WS_cg WSr_cg WH_cg WHA_cg WG_cg WC_cg WX_cg
attribute [local simp] Env.has AV.wkr wkrL AV.wkr_refl wkrL_refl AV.ltI ltL leHW hasW Env.lt AV.ids idsL AV.sub subL AV.ren AV.frz frzS frzP frzE frzL Heap.frz Blk.frz Blk.ren renL rnS rnP hasR leR idsL_bv subL_bv
attribute [local simp] cleanL_take cleanL_drop ltL_take ltL_drop idsL_take idsL_drop subL_take subL_drop cleanL_append ltL_append idsL_append subL_append
attribute [local simp] renE mvN mvH
attribute [local simp] fwd backH putL bwd
attribute [local simp] u8i u8e List.idxOf_cons
attribute [local simp] hasRW leRW
attribute [local simp] els1 WS_at_q4 WSr_at_q4 loadWP splice_full Int.natCast_inj
/-! Elements put into cells one by one. -/
@[simp] theorem sp10 (a : Nat) : splice ([AV.int .u64 0, AV.int .u64 0, AV.int .u64 0, AV.int .u64 0]) 0 (q4 a) = q4 a := by kernel_rfl
@[simp] theorem sp20 (a : Nat) : splice ([AV.int .u64 0, AV.int .u64 0, AV.int .u64 0, AV.int .u64 0, AV.int .u64 0, AV.int .u64 0, AV.int .u64 0, AV.int .u64 0]) 0 (q4 a) = q4 a ++ [AV.int .u64 0, AV.int .u64 0, AV.int .u64 0, AV.int .u64 0] := by kernel_rfl
@[simp] theorem sp21 (a b : Nat) : splice (q4 a ++ [AV.int .u64 0, AV.int .u64 0, AV.int .u64 0, AV.int .u64 0]) 4 (q4 b) = q4 a ++ q4 b := by kernel_rfl
@[simp] theorem sp30 (a : Nat) : splice ([AV.int .u64 0, AV.int .u64 0, AV.int .u64 0, AV.int .u64 0, AV.int .u64 0, AV.int .u64 0, AV.int .u64 0, AV.int .u64 0, AV.int .u64 0, AV.int .u64 0, AV.int .u64 0, AV.int .u64 0]) 0 (q4 a) = q4 a ++ [AV.int .u64 0, AV.int .u64 0, AV.int .u64 0, AV.int .u64 0, AV.int .u64 0, AV.int .u64 0, AV.int .u64 0, AV.int .u64 0] := by kernel_rfl
@[simp] theorem sp31 (a b : Nat) : splice (q4 a ++ [AV.int .u64 0, AV.int .u64 0, AV.int .u64 0, AV.int .u64 0, AV.int .u64 0, AV.int .u64 0, AV.int .u64 0, AV.int .u64 0]) 4 (q4 b) = q4 a ++ (q4 b ++ [AV.int .u64 0, AV.int .u64 0, AV.int .u64 0, AV.int .u64 0]) := by kernel_rfl
@[simp] theorem sp32 (a b c : Nat) : splice (q4 a ++ (q4 b ++ [AV.int .u64 0, AV.int .u64 0, AV.int .u64 0, AV.int .u64 0])) 8 (q4 c) = q4 a ++ (q4 b ++ q4 c) := by kernel_rfl
@[simp] theorem sp40 (a : Nat) : splice ([AV.int .u64 0, AV.int .u64 0, AV.int .u64 0, AV.int .u64 0, AV.int .u64 0, AV.int .u64 0, AV.int .u64 0, AV.int .u64 0, AV.int .u64 0, AV.int .u64 0, AV.int .u64 0, AV.int .u64 0, AV.int .u64 0, AV.int .u64 0, AV.int .u64 0, AV.int .u64 0]) 0 (q4 a) = q4 a ++ [AV.int .u64 0, AV.int .u64 0, AV.int .u64 0, AV.int .u64 0, AV.int .u64 0, AV.int .u64 0, AV.int .u64 0, AV.int .u64 0, AV.int .u64 0, AV.int .u64 0, AV.int .u64 0, AV.int .u64 0] := by kernel_rfl
@[simp] theorem sp41 (a b : Nat) : splice (q4 a ++ [AV.int .u64 0, AV.int .u64 0, AV.int .u64 0, AV.int .u64 0, AV.int .u64 0, AV.int .u64 0, AV.int .u64 0, AV.int .u64 0, AV.int .u64 0, AV.int .u64 0, AV.int .u64 0, AV.int .u64 0]) 4 (q4 b) = q4 a ++ (q4 b ++ [AV.int .u64 0, AV.int .u64 0, AV.int .u64 0, AV.int .u64 0, AV.int .u64 0, AV.int .u64 0, AV.int .u64 0, AV.int .u64 0]) := by kernel_rfl
@[simp] theorem sp42 (a b c : Nat) : splice (q4 a ++ (q4 b ++ [AV.int .u64 0, AV.int .u64 0, AV.int .u64 0, AV.int .u64 0, AV.int .u64 0, AV.int .u64 0, AV.int .u64 0, AV.int .u64 0])) 8 (q4 c) = q4 a ++ (q4 b ++ (q4 c ++ [AV.int .u64 0, AV.int .u64 0, AV.int .u64 0, AV.int .u64 0])) := by kernel_rfl
@[simp] theorem sp43 (a b c d : Nat) : splice (q4 a ++ (q4 b ++ (q4 c ++ [AV.int .u64 0, AV.int .u64 0, AV.int .u64 0, AV.int .u64 0]))) 12 (q4 d) = q4 a ++ (q4 b ++ (q4 c ++ q4 d)) := by kernel_rfl
/-- A difference. -/
def subP (a b : Nat) : Nat := (a + negP b) % p25
theorem fFdSub_spec (a b : Nat) (ha : a < p25) (hb : b < p25) : FSpec Try.prog 64 [.agg (q4 a), .agg (q4 b)] [] (.agg (q4 (subP a b))) [] := by
  have hp := p25_lt
  have hn := negP_lt b
  have hA := fFdAdd_spec [a, negP b] ⟨false, true, false⟩ (by intro x hx; simp at hx; rcases hx with rfl | rfl <;> omega) (by simp)
  rw [show [a, negP b].sum % p25 = subP a b by simp [subP]] at hA
  have hN := fFdNeg_spec b hb
  refine FSpec.of_W fFdSub_low (by simp) ?_
  simp only [initEnv]
  simp
  refine WO_callP [] rfl rfl hN (by simp) (by simp) ?_
  simp
  refine WO_callP (as' := [.list 4 ⟨false, true, false⟩ (els [a, negP b])]) [] rfl (by simp [els1]) hA (by simp) (by simp) ?_
  simp
  exact fin_W (by simp)
theorem fFdPower_spec (a e : Nat) (ha : a < p25) (he : e < 2 ^ 256) : FSpec Try.prog 115 [.agg (q4 a), .agg (q4 e)] [] (.agg (q4 (a ^ e % p25))) [] := by
  have hp := p25_lt
  have hT := fFdTimes_spec
  have hS := fFdSmall_spec 1 (by decide)
  have hpos := p25_pos
  have h1 : 1 % p25 = 1 := by decide
  generalize p25 = p at *
  refine FSpec.of_W fFdPower_low (by simp) ?_
  simp only [initEnv]
  simp
  refine WO_callP [] rfl rfl hS (by simp) (by simp) ?_
  simp
  refine W_loop (X := { k : Nat // k ≤ 256 }) (fun i => [(2, .ptr 0 0), (3, .ptr 1 0), (4, .ptr 2 0), (5, .ptr 3 0), (6, .int .i64 ((i.1 : Int) - 1))]) (fun i => [some ⟨q4 a, 49, true⟩, some ⟨q4 e, 48, true⟩, some ⟨q4 0, 49, true⟩, some ⟨q4 (a ^ (e / 2 ^ i.1) % p), 49, true⟩]) (fun i => i.1) ⟨256, by omega⟩ retPost_le ?_ ?_
  · have e0 : e / 2 ^ 256 = 0 := Nat.div_eq_of_lt he
    exact cut_w (by simp [e0, q4_zero, h1])
  · rintro ⟨i, hi⟩
    obtain _ | k := i
    · simp
      exact fin_W (by simp)
    · simp
      have hm := Nat.mod_lt (a ^ (e / 2 ^ (k + 1))) hpos
      obtain ⟨v, hv⟩ : ∃ v, v = a ^ (e / 2 ^ (k + 1)) % p := ⟨_, rfl⟩
      rw [← hv] at hm ⊢
      have hT1 := hT v v (by omega) (by omega)
      have hT2 := hT (v * v % p) a (by have := Nat.mod_lt (v * v) hpos; omega) (by omega)
      refine WO_callP [] rfl rfl hT1 (by simp) (by simp) ?_
      obtain ⟨q, hq⟩ : ∃ q, q = k / 64 := ⟨_, rfl⟩
      obtain ⟨r, hr⟩ : ∃ r, r = k % 64 := ⟨_, rfl⟩
      have e1 : (k : Int).tdiv 64 = (q : Int) := by rw [hq]; rfl
      have e2 : (k : Int).tmod 64 = (r : Int) := by rw [hr]; rfl
      have e5 : ((wd e q : Nat) : Int).fdiv (2 ^ min r 64) = ((wd e q / 2 ^ r : Nat) : Int) := by rw [show min r 64 = r by omega]; exact shr_nat _ _
      have e6 : (q : Int) < 4 := by omega
      have e7 : q < 4 := by omega
      have e3 := wd_bit' e k
      rw [← hq, ← hr] at e3
      have e9 : wd e q / 2 ^ r < 2 ^ 64 := Nat.lt_of_le_of_lt (Nat.div_le_self _ _) (wd_lt e q)
      generalize wd e q / 2 ^ r = z at *
      have e8 := and1_u64 e9
      rw [e3] at e8
      obtain ⟨y, hy⟩ : ∃ y, y = e / 2 ^ k % 2 := ⟨_, rfl⟩
      rw [← hy] at e8
      have hb : e / 2 ^ k = 2 * (e / 2 ^ (k + 1)) + y := by rw [hy, Nat.pow_succ, ← Nat.div_div_eq_div_mul]; omega
      have hy2 : y < 2 := by rw [hy]; exact Nat.mod_lt _ (by decide)
      have hv2 : v * v % p = a ^ (2 * (e / 2 ^ (k + 1))) % p := by rw [hv, ← Nat.mul_mod, ← Nat.pow_add, Nat.two_mul]
      simp [e1, e2, e6, e7, e5, e8, IntKind.bits, wrap64s (n := (q : Int)) (by omega) (by omega)]
      refine WC_dec (fun h => ?_) (fun h => ?_)
      · have h' : y = 1 := by omega
        simp
        refine WO_callP [] rfl rfl hT2 (by simp) (by simp) ?_
        have hn : v * v % p * a % p = a ^ (e / 2 ^ k) % p := by
          rw [hv2, Nat.mod_mul_mod, hb, h']
          rfl
        rw [hn]
        simp
        refine ⟨⟨k, by omega⟩, by simp, ?_⟩
        exact cut_w (by simp [wrap64s (n := (k : Int) - 1) (by omega) (by omega)])
      · have h' : y = 0 := by omega
        have hn : v * v % p = a ^ (e / 2 ^ k) % p := by rw [hv2, hb, h']; rfl
        rw [hn]
        simp
        refine ⟨⟨k, by omega⟩, by simp, ?_⟩
        exact cut_w (by simp [wrap64s (n := (k : Int) - 1) (by omega) (by omega)])
/-- What makes 1 with a number. -/
def invP (a : Nat) : Nat := a ^ (p25 - 2) % p25
theorem fFdInvert_spec (a : Nat) (ha : a < p25) : FSpec Try.prog 67 [.agg (q4 a)] [] (.agg (q4 (invP a))) [] := by
  have hM := fFdModulus_spec
  have hS := fFdSmall_spec 2 (by decide)
  have hm := fFdMinus_spec p25 2 (by decide)
  have hP := fFdPower_spec a (p25 - 2) ha (by decide)
  rw [show a ^ (p25 - 2) % p25 = invP a from rfl] at hP
  generalize p25 - 2 = e at *
  generalize p25 = p at *
  refine FSpec.of_W fFdInvert_low (by simp) ?_
  simp only [initEnv]
  simp
  refine WO_callP [] rfl rfl hM (by simp) (by simp) ?_
  simp
  refine WO_callP [] rfl rfl hS (by simp) (by simp) ?_
  simp
  refine WO_callP [] rfl rfl hm (by simp) (by simp) ?_
  simp
  refine WO_callP [] rfl rfl hP (by simp) (by simp) ?_
  simp
  exact fin_W (by simp)
end Go.Proofs.Ythgibibeoapfbaa
