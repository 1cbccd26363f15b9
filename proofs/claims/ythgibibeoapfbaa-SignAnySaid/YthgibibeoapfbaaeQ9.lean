/-
  Field: powers.
-/
import Derived.Test.YthgibibeoapfbaaeQ8
set_option linter.unusedSimpArgs false
set_option linter.unnecessarySimpa false
set_option linter.unusedVariables false
set_option linter.unusedSectionVars false
namespace Go.Proofs.Ythgibibeoapfbaa
open Go Go.Fw
attribute [local simp] bv cleanL_bv toBytes_bv ltL_bv atF_drop WS_at_bytes W_nil W_skip W_seq W_reg W_draw W_drawP W_kill W_keep W_block W_blk W_exit W_ret WX_blk WX_c WX_lp WX_li W_li W_condT W_condF W_cond WC_true WC_false
  WR_nil WR_cons WR_o1 WR_o2 o1_chk o2_chk WR_grd WG_tt WG_ff WG_tf WG_ft WG_none WS_some WS_ok1 WSr_no WSr_some WSr_ok1 WSr_at_bytes WH_some WHA_some chkF_cons chkF_nil chkE_some chkE_ok1 chkE_at evF WO_mv WO_pick WO_bin WO_isNil WO_eqA WO_un WO_convI WO_toStr WO_ofStr WO_build WO_buildF WO_load WO_nilCheck WO_fieldAddr WO_field WO_idxA WO_idxS
  WO_ixA WO_slS WO_slA WO_len WO_lenK WO_appF WO_extract WO_s2a WO_iface WO_min WO_max WO_alloc WO_box WO_buildO WO_store WO_appO WO_copy WO_makeS WO_allocA WO_makeA WO_cvt cvtF_slice WO_look lookF_map alAF mkAF WO_func bind1_v bind2_v bindH_v bindH2_v bindS_v okO_v pickO_t pickO_f
  Env.keep Env.get Env.set Env.del Env.dels Env.setO Env.opd Env.opds Env.opdO Env.parts intF aggF fillA splice cleanL AV.clean bndF fldF_one fldF_many toStrF boxF buildOF
  loadF_rptr loadF_rptrN atF_zero atF_succ blk_cons_zero blk_cons_succ loadF_p loadF_pN atB_some atBN_some retPost resL one
  okc_bool cells_bool notStr_bool okc_int cells_int notStr_int okc_str cells_str notStr_str okc_nil cells_nil notStr_nil okc_ptr cells_ptr notStr_ptr okc_rptr cells_rptr notStr_rptr okc_slice cells_slice notStr_slice 
  okc_list cells_list notStr_list okc_func cells_func notStr_func okc_nilFunc cells_nilFunc notStr_nilFunc okc_iface cells_iface notStr_iface okc_nilIface cells_nilIface notStr_nilIface okc_agg cells_agg notStr_agg 
  okc_tuple cells_tuple notStr_tuple lenF_slice lenF_list lenF_str faF_ptr faF_rptr idxSF_slice idxSF_list idxAF_ptr idxAF_rptr ixAF_many ixAF_one convF_int unF_neg unF_xor unF_not nilF_0nil nilF_0ptr nilF_0rptr nilF_1 
  nilF_2nil nilF_2f nilF_3nil nilF_3f binF_int binF_beq binF_bne binF_sadd binF_seq binF_sne sliceCells_list sliceCells_str sliceCells_slice cutC_some szAV_list szAV_str szAV_slice oneSl_list oneSl_slice slSF_sliceS 
  slSF_sliceN slSF_list slAF_rptr slAF_ptr appFF_list appOF_list appOF_sliceN appOF_sliceS storeF_ptr copyF_slice extF_tuple s2aF_slice s2aF_list nchkF_ptr nchkF_rptr nchkF_f mmF_int ofStrF_str mkSF_int eqAF_agg
attribute [local irreducible] W WX WR WO WS WSr WH WHA WG WC FSpec
attribute [local simp] lendAll
attribute [local congr] W_cg WR_cg WO_cg WS_cg WSr_cg WH_cg WHA_cg WG_cg WC_cg WX_cg
attribute [local simp] Env.has AV.wkr wkrL AV.wkr_refl wkrL_refl AV.ltI ltL leHW hasW Env.lt AV.ids idsL AV.sub subL AV.ren AV.frz frzS frzP frzE frzL Heap.frz Blk.frz Blk.ren renL rnS rnP hasR leR idsL_bv subL_bv
attribute [local simp] cleanL_take cleanL_drop ltL_take ltL_drop idsL_take idsL_drop subL_take subL_drop cleanL_append ltL_append idsL_append subL_append
attribute [local simp] renE mvN mvH
attribute [local simp] fwd backH putL bwd
attribute [local simp] u8i u8e List.idxOf_cons
attribute [local simp] hasRW leRW
attribute [local simp] WS_at_map WSr_at_map WS_at_q4 WSr_at_q4 WS_at_arr WSr_at_arr loadWP splice_full Int.natCast_inj arr_zero32 z17 z34 fill_zero arr_set arr_take upd_fill
theorem fQPower_spec (a e : Nat) (ha : a < p25) (he : e < 2 ^ 256) : FSpec Try.prog 118 [.agg (q17 a), .agg (q4 e)] [] (.agg (q17 (a ^ e % p25))) [] := by
  have hp := p25_lt
  have hT := fQMul_spec
  have hS := fQSmall_spec 1 (by decide)
  have hpos := p25_pos
  have h1 : 1 % p25 = 1 := by decide
  generalize p25 = p at *
  rw [h1] at hS
  refine FSpec.of_W fQPower_low (by simp) ?_
  simp only [initEnv]
  simp
  refine WO_callP [] rfl rfl hS (by simp) (by simp) ?_
  simp
  refine W_loop (X := { k : Nat // k ≤ 256 }) (fun i => [(2, .ptr 0 0), (3, .ptr 1 0), (4, .ptr 2 0), (5, .ptr 3 0), (6, .int .i64 ((i.1 : Int) - 1))]) (fun i => [some ⟨q17 a, 55, true⟩, some ⟨q4 e, 48, true⟩, some ⟨q17 0, 55, true⟩, some ⟨q17 (a ^ (e / 2 ^ i.1) % p), 55, true⟩]) (fun i => i.1) ⟨256, by omega⟩ retPost_le ?_ ?_
  · have e0 : e / 2 ^ 256 = 0 := Nat.div_eq_of_lt he
    exact cut_w (by simp [e0, q17_zero, h1])
  · rintro ⟨i, hi⟩
    obtain _ | k := i
    · simp
      exact fin_W (by simp)
    · simp
      have hm := Nat.mod_lt (a ^ (e / 2 ^ (k + 1))) hpos
      obtain ⟨v, hv⟩ : ∃ v, v = a ^ (e / 2 ^ (k + 1)) % p := ⟨_, rfl⟩
      rw [← hv] at hm ⊢
      have hT1 := hT v v (by omega) (by omega)
      have hT2 := hT (v * v % p) a (by have := Nat.mod_lt (v * v) hpos; omega) (by omega)
      refine WO_callP [] rfl rfl hT1 (by simp) (by simp) ?_
      obtain ⟨q, hq⟩ : ∃ q, q = k / 64 := ⟨_, rfl⟩
      obtain ⟨r, hr⟩ : ∃ r, r = k % 64 := ⟨_, rfl⟩
      have e1 : (k : Int).tdiv 64 = (q : Int) := by rw [hq]; rfl
      have e2 : (k : Int).tmod 64 = (r : Int) := by rw [hr]; rfl
      have e5 : ((wd e q : Nat) : Int).fdiv (2 ^ min r 64) = ((wd e q / 2 ^ r : Nat) : Int) := by rw [show min r 64 = r by omega]; exact shr_nat _ _
      have e6 : (q : Int) < 4 := by omega
      have e7 : q < 4 := by omega
      have e3 := wd_bit' e k
      rw [← hq, ← hr] at e3
      generalize wd e q / 2 ^ r = z at *
      have e8 : (z : Int).tmod 2 = ((e / 2 ^ k % 2 : Nat) : Int) := by rw [← e3]; rfl
      obtain ⟨y, hy⟩ : ∃ y, y = e / 2 ^ k % 2 := ⟨_, rfl⟩
      rw [← hy] at e8
      have hb : e / 2 ^ k = 2 * (e / 2 ^ (k + 1)) + y := by rw [hy, Nat.pow_succ, ← Nat.div_div_eq_div_mul]; omega
      have hy2 : y < 2 := by rw [hy]; exact Nat.mod_lt _ (by decide)
      have hv2 : v * v % p = a ^ (2 * (e / 2 ^ (k + 1))) % p := by rw [hv, ← Nat.mul_mod, ← Nat.pow_add, Nat.two_mul]
      simp [e1, e2, e6, e7, e5, e8, IntKind.bits, wrap64s (n := (q : Int)) (by omega) (by omega)]
      refine WC_dec (fun h => ?_) (fun h => ?_)
      · have h' : y = 1 := by omega
        simp
        refine WO_callP [] rfl rfl hT2 (by simp) (by simp) ?_
        have hn : v * v % p * a % p = a ^ (e / 2 ^ k) % p := by
          rw [hv2, Nat.mod_mul_mod, hb, h']
          rfl
        rw [hn]
        simp
        refine ⟨⟨k, by omega⟩, by simp, ?_⟩
        exact cut_w (by simp [wrap64s (n := (k : Int) - 1) (by omega) (by omega)])
      · have h' : y = 0 := by omega
        have hn : v * v % p = a ^ (e / 2 ^ k) % p := by rw [hv2, hb, h']; rfl
        rw [hn]
        simp
        refine ⟨⟨k, by omega⟩, by simp, ?_⟩
        exact cut_w (by simp [wrap64s (n := (k : Int) - 1) (by omega) (by omega)])
theorem fQInvert_spec (a : Nat) (ha : a < p25) : FSpec Try.prog 77 [.agg (q17 a)] [] (.agg (q17 (invP a))) [] := by
  have hP := fQP_spec
  have h2 := fQSmall_spec 2 (by decide)
  have hU := fQUnder_spec p25 (2 % p25) p25_lt (by decide)
  have hL := fQLimbs_spec (p25 - 2 % p25) (by decide)
  have hW := fQPower_spec a (p25 - 2 % p25) ha (by decide)
  have e : a ^ (p25 - 2 % p25) % p25 = invP a := by rw [Nat.mod_eq_of_lt (show 2 < p25 by decide)]; rfl
  rw [e] at hW
  clear e
  generalize invP a = r at *
  generalize 2 % p25 = t at *
  generalize p25 - t = u at *
  generalize p25 = p at *
  refine FSpec.of_W fQInvert_low (by simp) ?_
  simp only [initEnv]
  simp
  refine WO_callP [] rfl rfl hP (by simp) (by simp) ?_
  simp
  refine WO_callP [] rfl rfl h2 (by simp) (by simp) ?_
  simp
  refine WO_callP [] rfl rfl hU (by simp) (by simp) ?_
  simp
  refine WO_callP [] rfl rfl hL (by simp) (by simp) ?_
  simp
  refine WO_callP [] rfl rfl hW (by simp) (by simp) ?_
  simp
  exact fin_W (by simp)
end Go.Proofs.Ythgibibeoapfbaa
