/-
  Field.
-/
import Derived.Test.YthgibibeoapfbaaeQ5
set_option linter.unusedSimpArgs false
set_option linter.unnecessarySimpa false
set_option linter.unusedVariables false
set_option linter.unusedSectionVars false
namespace Go.Proofs.Ythgibibeoapfbaa
open Go Go.Fw
attribute [local simp] bv cleanL_bv toBytes_bv ltL_bv atF_drop WS_at_bytes W_nil W_skip W_seq W_reg W_draw W_drawP W_kill W_keep W_block W_blk W_exit W_ret WX_blk WX_c WX_lp WX_li W_li W_condT W_condF W_cond WC_true WC_false
  WR_nil WR_cons WR_o1 WR_o2 o1_chk o2_chk WR_grd WG_tt WG_ff WG_tf WG_ft WG_none WS_some WS_ok1 WSr_no WSr_some WSr_ok1 WSr_at_bytes WH_some WHA_some chkF_cons chkF_nil chkE_some chkE_ok1 chkE_at evF WO_mv WO_pick WO_bin WO_isNil WO_eqA WO_un WO_convI WO_toStr WO_ofStr WO_build WO_buildF WO_load WO_nilCheck WO_fieldAddr WO_field WO_idxA WO_idxS
  WO_ixA WO_slS WO_slA WO_len WO_lenK WO_appF WO_extract WO_s2a WO_iface WO_min WO_max WO_alloc WO_box WO_buildO WO_store WO_appO WO_copy WO_makeS WO_allocA WO_makeA WO_cvt cvtF_slice WO_look lookF_map alAF mkAF WO_func bind1_v bind2_v bindH_v bindH2_v bindS_v okO_v pickO_t pickO_f
  Env.keep Env.get Env.set Env.del Env.dels Env.setO Env.opd Env.opds Env.opdO Env.parts intF aggF fillA splice cleanL AV.clean bndF fldF_one fldF_many toStrF boxF buildOF
  loadF_rptr loadF_rptrN atF_zero atF_succ blk_cons_zero blk_cons_succ loadF_p loadF_pN atB_some atBN_some retPost resL one
  okc_bool cells_bool notStr_bool okc_int cells_int notStr_int okc_str cells_str notStr_str okc_nil cells_nil notStr_nil okc_ptr cells_ptr notStr_ptr okc_rptr cells_rptr notStr_rptr okc_slice cells_slice notStr_slice 
  okc_list cells_list notStr_list okc_func cells_func notStr_func okc_nilFunc cells_nilFunc notStr_nilFunc okc_iface cells_iface notStr_iface okc_nilIface cells_nilIface notStr_nilIface okc_agg cells_agg notStr_agg 
  okc_tuple cells_tuple notStr_tuple lenF_slice lenF_list lenF_str faF_ptr faF_rptr idxSF_slice idxSF_list idxAF_ptr idxAF_rptr ixAF_many ixAF_one convF_int unF_neg unF_xor unF_not nilF_0nil nilF_0ptr nilF_0rptr nilF_1 
  nilF_2nil nilF_2f nilF_3nil nilF_3f binF_int binF_beq binF_bne binF_sadd binF_seq binF_sne sliceCells_list sliceCells_str sliceCells_slice cutC_some szAV_list szAV_str szAV_slice oneSl_list oneSl_slice slSF_sliceS 
  slSF_sliceN slSF_list slAF_rptr slAF_ptr appFF_list appOF_list appOF_sliceN appOF_sliceS storeF_ptr copyF_slice extF_tuple s2aF_slice s2aF_list nchkF_ptr nchkF_rptr nchkF_f mmF_int ofStrF_str mkSF_int eqAF_agg
attribute [local irreducible] W WX WR WO WS WSr WH WHA WG WC FSpec
attribute [local simp] lendAll
attribute [local congr] W_cg WR_cg WO_cg WS_cg WSr_cg WH_cg WHA_cg WG_cg WC_cg WX_cg
attribute [local simp] Env.has AV.wkr wkrL AV.wkr_refl wkrL_refl AV.ltI ltL leHW hasW Env.lt AV.ids idsL AV.sub subL AV.ren AV.frz frzS frzP frzE frzL Heap.frz Blk.frz Blk.ren renL rnS rnP hasR leR idsL_bv subL_bv
attribute [local simp] cleanL_take cleanL_drop ltL_take ltL_drop idsL_take idsL_drop subL_take subL_drop cleanL_append ltL_append idsL_append subL_append
attribute [local simp] renE mvN mvH
attribute [local simp] fwd backH putL bwd
attribute [local simp] u8i u8e List.idxOf_cons
attribute [local simp] hasRW leRW
attribute [local simp] WS_at_map WSr_at_map WS_at_arr WSr_at_arr loadWP splice_full Int.natCast_inj arr_zero32 z17 z34 fill_zero arr_set arr_take
/-- What is known of digits ahead of a round of carries. -/
structure Rnd (r : Nat) (g : Nat → Nat) (V : Nat) : Prop where
  le : ∀ k, k < 17 → g k ≤ 2 ^ 40
  one : 1 ≤ r → vs g 17 < 2 ^ 255 + 2 ^ 32
  two : 2 ≤ r → vs g 17 < 2 ^ 255
  three : 3 ≤ r → ∀ k, k < 17 → g k < 32768
  mod : vs g 17 % p25 = V % p25
theorem Rnd.next {r : Nat} {g g' : Nat → Nat} {V c : Nat} (h : Rnd r g V) (hg : ∀ k, k < 17 → g' k < 32768) (hc : c ≤ 2 ^ 26) (hv : vs g' 17 + c * 2 ^ 255 = vs g 17) : Rnd (r + 1) (upd g' 0 (g' 0 + 19 * c)) V := by
  have hlt := vs17_lt hg
  have hu : vs (upd g' 0 (g' 0 + 19 * c)) 17 = vs g' 17 + 19 * c * 32768 ^ 0 := vs_upd_add (by decide)
  rw [Nat.pow_zero, Nat.mul_one] at hu
  refine ⟨fun k hk => ?_, fun h1 => ?_, fun h2 => ?_, fun h3 k hk => ?_, ?_⟩
  · unfold upd
    split
    · have := hg 0 (by decide); omega
    · have := hg k hk; omega
  · rw [hu]; omega
  · rw [hu]; have := h.one (by omega); omega
  · have h4 := h.two (by omega)
    have : c = 0 := by omega
    subst this
    unfold upd
    split
    · have := hg 0 (by decide); omega
    · exact hg k hk
  · rw [hu, ← h.mod, ← hv, Nat.mul_comm c, mod19]
theorem fQSettle_spec (g0 : Nat → Nat) (h0 : ∀ k, k < 17 → g0 k ≤ 2 ^ 40) : FSpec Try.prog 117 [.agg (arr .i64 17 g0)] [] (.agg (q17 (vs g0 17 % p25))) [] := by
  have hp := p25_lt
  have hP := fQP_spec
  have hpos := p25_pos
  have h2p : 2 ^ 255 < 2 * p25 := by decide
  refine FSpec.of_W fQSettle_low (by simp) ?_
  simp only [initEnv]
  simp
  refine W_loop (X := { x : Nat × (Nat → Nat) // x.1 ≤ 4 ∧ Rnd x.1 x.2 (vs g0 17) }) (fun x => [(1, .ptr 0 0), (2, .ptr 1 0), (3, .int .i64 x.1.1)]) (fun x => [some ⟨arr .i64 17 x.1.2, 55, true⟩, some ⟨arr .i64 17 fun _ => 0, 55, true⟩]) (fun x => 4 - x.1.1)
    ⟨(0, g0), by simp, h0, by simp, by simp, by simp, rfl⟩ retPost_le ?_ ?_
  · exact cut_w (by simp)
  · rintro ⟨⟨r, g⟩, hr, hR⟩
    simp only at hr hR ⊢
    simp
    refine WC_dec (fun hl => ?_) (fun hl => ?_)
    · simp
      refine W_loop (X := { x : Nat × (Nat → Nat) × Nat // x.1 ≤ 17 ∧ (∀ k, k < x.1 → x.2.1 k < 32768) ∧ (∀ k, x.1 ≤ k → x.2.1 k = g k) ∧ x.2.2 ≤ 2 ^ 26 ∧ vs x.2.1 x.1 + x.2.2 * 32768 ^ x.1 = vs g x.1 })
        (fun x => [(1, .ptr 0 0), (2, .ptr 1 0), (3, .int .i64 r), (4, .int .i64 (x.1.2.2 : Nat)), (5, .int .i64 x.1.1)]) (fun x => [some ⟨arr .i64 17 x.1.2.1, 55, true⟩, some ⟨arr .i64 17 fun _ => 0, 55, true⟩]) (fun x => 17 - x.1.1)
        ⟨(0, g, 0), by simp, by simp, fun _ _ => rfl, by simp, by simp [vs]⟩ retPost_le ?_ ?_
      · exact cut_w (by simp)
      · rintro ⟨⟨i, g', c⟩, hi, hg, hr', hc, hv⟩
        simp only at hi hg hr' hc hv ⊢
        simp
        refine WC_dec (fun hl => ?_) (fun hl => ?_)
        · have hx := hr' i (Nat.le_refl _)
          have hle := hR.le i (by omega)
          obtain ⟨x, hxe⟩ : ∃ x, x = g i := ⟨_, rfl⟩
          rw [← hxe] at hx hle
          obtain ⟨q, hq⟩ : ∃ q, q = (x + c) / 32768 := ⟨_, rfl⟩
          obtain ⟨z, hz⟩ : ∃ z, z = (x + c) % 32768 := ⟨_, rfl⟩
          have e1 : IntKind.i64.wrap ((x : Int) + c) = ((x + c : Nat) : Int) := by rw [← Int.natCast_add]; exact wrap64 (by omega) (by omega)
          have e2 : ((x + c : Nat) : Int).tmod 32768 = (z : Nat) := by rw [hz]; rfl
          have e3 : ((x + c : Nat) : Int).tdiv 32768 = (q : Nat) := by rw [hq]; rfl
          have e4 : IntKind.i64.wrap (q : Int) = q := wrap64 (by omega) (by omega)
          have w1 : IntKind.i64.wrap ((i : Int) + 1) = (i : Int) + 1 := wrap64s (by omega) (by omega)
          rw [Int.natCast_add] at e1 e2 e3
          simp [hx, e1, e2, e3, e4]
          repeat (refine ⟨by omega, ?_⟩)
          refine ⟨⟨(i + 1, upd g' i z, q), by simp only; omega, ?_, ?_, by simp only; omega, ?_⟩, by simp only; omega, cut_w (by simp [w1])⟩
          · intro k hk
            simp only at hk ⊢
            unfold upd
            split
            · omega
            · exact hg k (by omega)
          · intro k hk
            simp only at hk ⊢
            unfold upd
            rw [if_neg (by omega)]
            exact hr' k (by omega)
          · simp only
            have E : z + 32768 * q = x + c := by omega
            have E2 := congrArg (· * 32768 ^ i) E
            simp only [Nat.add_mul] at E2
            rw [vs, vs, vs_upd (Nat.le_refl _), show upd g' i z i = z from if_pos rfl, ← hxe, Nat.pow_succ]
            have : q * (32768 ^ i * 32768) = 32768 * q * 32768 ^ i := by ac_rfl
            omega
        · have hi17 : i = 17 := by omega
          subst hi17
          rw [← two255] at hv
          have hN := hR.next hg hc hv
          have h00 := hg 0 (by decide)
          obtain ⟨a, ha⟩ : ∃ a, a = g' 0 := ⟨_, rfl⟩
          rw [← ha] at hN h00
          have e1 : IntKind.i64.wrap (19 * (c : Int)) = ((19 * c : Nat) : Int) := by rw [show 19 * (c : Int) = ((19 * c : Nat) : Int) by omega]; exact wrap64 (by omega) (by omega)
          obtain ⟨b, hb⟩ : ∃ b, b = a + 19 * c := ⟨_, rfl⟩
          have e2 : IntKind.i64.wrap ((a : Int) + ((19 * c : Nat) : Int)) = (b : Nat) := by rw [← Int.natCast_add, hb]; exact wrap64 (by omega) (by omega)
          rw [← hb] at hN
          have e3 : IntKind.i64.wrap ((r : Int) + 1) = (r : Int) + 1 := wrap64s (by omega) (by omega)
          simp only [Int.natCast_mul, Int.cast_ofNat_Int] at e1 e2
          simp [← ha, e1, e2]
          repeat (refine ⟨by omega, ?_⟩)
          exact ⟨⟨(r + 1, upd g' 0 b), by simp only; omega, hN⟩, by simp only; omega, cut_w (by simp [e3])⟩
    · have : r = 4 := by omega
      subst this
      have hd := hR.three (by decide)
      have hlt := vs17_lt hd
      have hm := hR.mod
      obtain ⟨n, hn⟩ : ∃ n, n = vs g 17 := ⟨_, rfl⟩
      rw [q17_vs hd, ← hn]
      rw [← hn] at hlt hm
      rw [← hm]
      simp
      refine WO_callP [] rfl rfl hP (by simp) (by simp) ?_
      simp
      refine WO_callP [] rfl rfl (fQLess_spec n p25 hlt hp) (by simp) (by simp) ?_
      simp
      refine WC_ndec (fun h => ?_) (fun h => ?_)
      · simp
        refine WO_callP [] rfl rfl hP (by simp) (by simp) ?_
        simp
        refine WO_callP [] rfl rfl (fQUnder_spec n p25 hlt (by omega)) (by simp) (by simp) ?_
        have : n % p25 = n - p25 := by rw [Nat.mod_eq_sub_mod (by omega), Nat.mod_eq_of_lt (by omega)]
        rw [this]
        simp
        exact fin_W (by simp)
      · rw [Nat.mod_eq_of_lt h]
        simp
        exact fin_W (by simp)
theorem fQSmall_spec (n : Nat) (h : n ≤ 2 ^ 40) : FSpec Try.prog 74 [.int .i64 (n : Nat)] [] (.agg (q17 (n % p25))) [] := by
  have e : vs (upd (fun _ => 0) 0 n) 17 = n := by
    have := vs_upd_add (g := fun _ => 0) (i := 0) (v := n) (m := 17) (by decide)
    rw [Nat.zero_add] at this
    rw [this]
    have z : vs (fun _ => 0) 17 = 0 := by decide
    rw [z, Nat.pow_zero]; omega
  have hS := fQSettle_spec (upd (fun _ => 0) 0 n) (fun k _ => by unfold upd; split; exact h; exact Nat.zero_le _)
  rw [e] at hS
  refine FSpec.of_W fQSmall_low (by simp) ?_
  simp only [initEnv]
  simp
  refine WO_callP [] rfl rfl hS (by simp) (by simp) ?_
  simp
  exact fin_W (by simp)
theorem fQAdd_spec (a b : Nat) (ha : a < 2 ^ 255) (hb : b < 2 ^ 255) : FSpec Try.prog 78 [.agg (q17 a), .agg (q17 b)] [] (.agg (q17 ((a + b) % p25))) [] := by
  have hS := fQSettle_spec (fun k => dig a k + dig b k) (fun k _ => by have := dig_lt a k; have := dig_lt b k; omega)
  rw [vs_add, vs17 ha, vs17 hb] at hS
  refine FSpec.of_W fQAdd_low (by simp) ?_
  simp only [initEnv]
  simp [q17]
  refine W_loop (X := { i : Nat // i ≤ 17 }) (fun i => [(2, .ptr 0 0), (3, .ptr 1 0), (4, .ptr 2 0), (5, .int .i64 i.1)]) (fun i => [some ⟨arr .i64 17 (fun k => if k < i.1 then dig a k + dig b k else dig a k), 55, true⟩, some ⟨arr .i64 17 (dig b), 55, true⟩, some ⟨arr .i64 17 fun _ => 0, 55, true⟩]) (fun i => 17 - i.1) ⟨0, by omega⟩ retPost_le ?_ ?_
  · exact cut_w (by simp)
  · rintro ⟨i, hi⟩
    simp only
    simp
    refine WC_dec (fun h => ?_) (fun h => ?_)
    · have h1 := dig_lt a i
      have h2 := dig_lt b i
      have e1 : IntKind.i64.wrap ((dig a i : Int) + (dig b i : Int)) = ((dig a i + dig b i : Nat) : Int) := by rw [← Int.natCast_add]; exact wrap64 (by omega) (by omega)
      have w1 : IntKind.i64.wrap ((i : Int) + 1) = (i : Int) + 1 := wrap64s (by omega) (by omega)
      have e2 : upd (fun k => if k < i then dig a k + dig b k else dig a k) i (dig a i + dig b i) = fun k => if k < i + 1 then dig a k + dig b k else dig a k := by
        funext k
        unfold upd
        split
        · rename_i q; subst q; rw [if_pos (Nat.lt_succ_self _)]
        · show (if k < i then dig a k + dig b k else dig a k) = if k < i + 1 then dig a k + dig b k else dig a k
          by_cases hk : k < i
          · rw [if_pos hk, if_pos (by omega)]
          · rw [if_neg hk, if_neg (by omega)]
      obtain ⟨z, hz⟩ : ∃ z, z = dig a i + dig b i := ⟨_, rfl⟩
      rw [← hz] at e1 e2
      simp [e1, e2]
      repeat (refine ⟨by omega, ?_⟩)
      exact ⟨⟨i + 1, by omega⟩, by simp; omega, cut_w (by simp [w1])⟩
    · have : i = 17 := by omega
      subst this
      have e3 : arr .i64 17 (fun k => if k < 17 then dig a k + dig b k else dig a k) = arr .i64 17 (fun k => dig a k + dig b k) := arr_ext fun k hk => by rw [if_pos hk]
      simp [e3]
      refine WO_callP [] rfl rfl hS (by simp) (by simp) ?_
      simp
      exact fin_W (by simp [q17])
theorem settle_q17 (n : Nat) (hn : n < 2 ^ 255) : FSpec Try.prog 117 [.agg (q17 n)] [] (.agg (q17 (n % p25))) [] := by
  have hS := fQSettle_spec (dig n) (fun k _ => by have := dig_lt n k; omega)
  rwa [vs17 hn] at hS
theorem fQNeg_spec (a : Nat) (ha : a < p25) : FSpec Try.prog 80 [.agg (q17 a)] [] (.agg (q17 (negP a))) [] := by
  have hp := p25_lt
  have hU := fQUnder_spec p25 a hp (by omega)
  have hS := settle_q17 (p25 - a) (by omega)
  have e : (p25 - a) % p25 = negP a := by
    unfold negP; split
    · rename_i q; rw [q, Nat.sub_zero, Nat.mod_self]
    · exact Nat.mod_eq_of_lt (by omega)
  rw [e] at hS
  refine FSpec.of_W fQNeg_low (by simp) ?_
  simp only [initEnv]
  simp
  refine WO_callP [] rfl rfl fQP_spec (by simp) (by simp) ?_
  simp
  refine WO_callP [] rfl rfl hU (by simp) (by simp) ?_
  simp
  refine WO_callP [] rfl rfl hS (by simp) (by simp) ?_
  simp
  exact fin_W (by simp)
theorem fQSub_spec (a b : Nat) (ha : a < p25) (hb : b < p25) : FSpec Try.prog 76 [.agg (q17 a), .agg (q17 b)] [] (.agg (q17 (subP a b))) [] := by
  have hp := p25_lt
  have hn := negP_lt b
  have hA := fQAdd_spec a (negP b) (by omega) (by omega)
  refine FSpec.of_W fQSub_low (by simp) ?_
  simp only [initEnv]
  simp
  refine WO_callP [] rfl rfl (fQNeg_spec b hb) (by simp) (by simp) ?_
  simp
  refine WO_callP [] rfl rfl hA (by simp) (by simp) ?_
  simp
  exact fin_W (by simp [subP])
end Go.Proofs.Ythgibibeoapfbaa
