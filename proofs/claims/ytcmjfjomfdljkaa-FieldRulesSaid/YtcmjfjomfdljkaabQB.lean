/-
  The field: the laws.
-/
import Derived.Test.YtcmjfjomfdljkaabQA
set_option linter.unusedSimpArgs false
set_option linter.unnecessarySimpa false
set_option linter.unusedVariables false
set_option linter.unusedSectionVars false
namespace Go.Proofs.Ytcmjfjomfdljkaa
open Go Go.Fw
attribute [local simp] bv cleanL_bv toBytes_bv ltL_bv atF_drop WS_at_bytes W_nil W_skip W_seq W_reg W_draw W_drawP W_kill W_keep W_block W_blk W_exit W_ret WX_blk WX_c WX_lp WX_li W_li W_condT W_condF W_cond WC_true WC_false
  WR_nil WR_cons WR_o1 WR_o2 o1_chk o2_chk WR_grd WG_tt WG_ff WG_tf WG_ft WG_none WS_some WS_ok1 WSr_no WSr_some WSr_ok1 WSr_at_bytes WH_some WHA_some chkF_cons chkF_nil chkE_some chkE_ok1 chkE_at evF WO_mv WO_pick WO_bin WO_isNil WO_eqA WO_un WO_convI WO_toStr WO_ofStr WO_build WO_buildF WO_load WO_nilCheck WO_fieldAddr WO_field WO_idxA WO_idxS
  WO_ixA WO_slS WO_slA WO_len WO_lenK WO_appF WO_extract WO_s2a WO_iface WO_min WO_max WO_alloc WO_box WO_buildO WO_store WO_appO WO_copy WO_makeS WO_allocA WO_makeA WO_cvt cvtF_slice WO_look lookF_map alAF mkAF WO_func bind1_v bind2_v bindH_v bindH2_v bindS_v okO_v pickO_t pickO_f
  Env.keep Env.get Env.set Env.del Env.dels Env.setO Env.opd Env.opds Env.opdO Env.parts intF aggF fillA splice cleanL AV.clean bndF fldF_one fldF_many toStrF boxF buildOF
  loadF_rptr loadF_rptrN atF_zero atF_succ blk_cons_zero blk_cons_succ loadF_p loadF_pN atB_some atBN_some retPost resL one
  okc_bool cells_bool notStr_bool okc_int cells_int notStr_int okc_str cells_str notStr_str okc_nil cells_nil notStr_nil okc_ptr cells_ptr notStr_ptr okc_rptr cells_rptr notStr_rptr okc_slice cells_slice notStr_slice 
  okc_list cells_list notStr_list okc_func cells_func notStr_func okc_nilFunc cells_nilFunc notStr_nilFunc okc_iface cells_iface notStr_iface okc_nilIface cells_nilIface notStr_nilIface okc_agg cells_agg notStr_agg 
  okc_tuple cells_tuple notStr_tuple lenF_slice lenF_list lenF_str faF_ptr faF_rptr idxSF_slice idxSF_list idxAF_ptr idxAF_rptr ixAF_many ixAF_one convF_int unF_neg unF_xor unF_not nilF_0nil nilF_0ptr nilF_0rptr nilF_1 
  nilF_2nil nilF_2f nilF_3nil nilF_3f binF_int binF_beq binF_bne binF_sadd binF_seq binF_sne sliceCells_list sliceCells_str sliceCells_slice cutC_some szAV_list szAV_str szAV_slice oneSl_list oneSl_slice slSF_sliceS 
  slSF_sliceN slSF_list slAF_rptr slAF_ptr appFF_list appOF_list appOF_sliceN appOF_sliceS storeF_ptr copyF_slice extF_tuple s2aF_slice s2aF_list nchkF_ptr nchkF_rptr nchkF_f mmF_int ofStrF_str mkSF_int eqAF_agg
attribute [local irreducible] W WX WR WO WS WSr WH WHA WG WC FSpec
attribute [local simp] lendAll
attribute [local congr] W_cg WR_cg WO_cg WS_cg WSr_cg WH_cg WHA_cg WG_cg WC_cg WX_cg
attribute [local simp] Env.has AV.wkr wkrL AV.wkr_refl wkrL_refl AV.ltI ltL leHW hasW Env.lt AV.ids idsL AV.sub subL AV.ren AV.frz frzS frzP frzE frzL Heap.frz Blk.frz Blk.ren renL rnS rnP hasR leR idsL_bv subL_bv
attribute [local simp] cleanL_take cleanL_drop ltL_take ltL_drop idsL_take idsL_drop subL_take subL_drop cleanL_append ltL_append idsL_append subL_append
attribute [local simp] renE mvN mvH
attribute [local simp] fwd backH putL bwd
attribute [local simp] u8i u8e List.idxOf_cons
attribute [local simp] hasRW leRW
attribute [local simp] els1 WS_at_map WSr_at_map WS_at_q4 WSr_at_q4 WS_at_arr WSr_at_arr loadWP splice_full Int.natCast_inj arr_zero32 z17 z34 fill_zero arr_set arr_take
theorem modP_lt (n : Nat) : n % p25 < p25 := Nat.mod_lt _ p25_pos
set_option maxRecDepth 100000 in
theorem fFieldBytes_law : ∀ args, AllFit Try.prog 8 Try.f10.params.toList args → FSpec Try.prog 10 args [] (.bool true) [] := by
  intro args has
  rw [show Try.f10.params.toList = [22, 25] from by rw [Try.params10]] at has
  obtain ⟨a, as1, rfl, h1, has⟩ := all_cons has
  obtain ⟨b, as2, rfl, h2, has⟩ := all_cons has
  cases all_nil has
  obtain ⟨l, hl, rfl⟩ := arg_bytesA Try.underlying22 Try.underlying5 h1
  obtain ⟨z, z1, z2, rfl⟩ := arg_int Try.underlying25 h2
  simp [IntKind.min, IntKind.max, IntKind.signed, IntKind.bits] at z1 z2
  obtain ⟨w, rfl⟩ : ∃ w : Nat, z = w := ⟨z.toNat, by omega⟩
  exact fFieldBytes_spec l hl w (by omega)
theorem fFieldPowers_spec (N E : Nat) (hN : N < 2 ^ 256) (hE : E < 2 ^ 256) : FSpec Try.prog 6 [.agg (q4 N), .agg (q4 E)] [] (.bool true) [] := by
  have hpl := p25_lt
  have hU := fNum5_spec N hN
  have hx := modP_lt N
  obtain ⟨x, hxe⟩ : ∃ x, x = N % p25 := ⟨_, rfl⟩
  rw [← hxe] at hU hx
  have h1 := fFdPower_spec x E hx hE
  have h2 := fQPower_spec x E hx hE
  have hl := modP_lt (x ^ E)
  have h3 := fFdInvert_spec x hx
  have h4 := fQInvert_spec x hx
  have hv : invP x < p25 := modP_lt _
  generalize x ^ E % p25 = u at *
  generalize invP x = v at *
  have k1 := fLike5_spec u u (by omega) (by omega)
  have k2 := fLike5_spec v v (by omega) (by omega)
  simp only [decide_true] at k1 k2
  clear hxe
  generalize p25 = p at *
  refine FSpec.of_W fFdPowers_low (by simp) ?_
  simp only [initEnv]
  simp
  refine WO_callP [] rfl rfl fLives5_spec (by simp) (by simp) ?_
  simp
  refine WO_callP [] rfl rfl hU (by simp) (by simp) ?_
  simp
  refine WO_callP [] rfl rfl h1 (by simp) (by simp) ?_
  simp
  refine WO_callP [] rfl rfl h2 (by simp) (by simp) ?_
  simp
  refine WO_callP [] rfl rfl k1 (by simp) (by simp) ?_
  simp
  refine WO_callP [] rfl rfl h3 (by simp) (by simp) ?_
  simp
  refine WO_callP [] rfl rfl h4 (by simp) (by simp) ?_
  simp
  refine WO_callP [] rfl rfl k2 (by simp) (by simp) ?_
  simp
  exact fin_W (by simp)
set_option maxRecDepth 100000 in
theorem fFieldPowers_law : ∀ args, AllFit Try.prog 8 Try.f6.params.toList args → FSpec Try.prog 6 args [] (.bool true) [] := by
  intro args has
  rw [show Try.f6.params.toList = [26, 26] from by rw [Try.params6]] at has
  obtain ⟨a, as1, rfl, h1, has⟩ := all_cons has
  obtain ⟨b, as2, rfl, h2, has⟩ := all_cons has
  cases all_nil has
  obtain ⟨x, hx, rfl⟩ := fit_q4 Try.underlying26 Try.underlying25 h1
  obtain ⟨y, hy, rfl⟩ := fit_q4 Try.underlying26 Try.underlying25 h2
  exact fFieldPowers_spec x y hx hy
theorem sum3 (x y z : Nat) : [x, y, z].sum % p25 = ((x + y) % p25 + z) % p25 := by simp [Nat.add_assoc]
theorem mul3 (x y z : Nat) : mulP [x, y, z] = (x * y % p25) * z % p25 := by simp [mulP]
theorem fFieldSums_spec (a b c : Nat) (ha : a < 2 ^ 256) (hb : b < 2 ^ 256) (hc : c < 2 ^ 256) : FSpec Try.prog 8 [.agg (q4 a), .agg (q4 b), .agg (q4 c)] [] (.bool true) [] := by
  have hpl := p25_lt
  have nx := fNum5_spec a ha
  have ny := fNum5_spec b hb
  have nz := fNum5_spec c hc
  have hx := modP_lt a
  have hy := modP_lt b
  have hz := modP_lt c
  generalize a % p25 = x at *
  generalize b % p25 = y at *
  generalize c % p25 = z at *
  have e1 := sum3 x y z
  have e2 := mul3 x y z
  have A1 := fQAdd_spec x y (by omega) (by omega)
  have hs := modP_lt (x + y)
  have M1 := fQMul_spec x y (by omega) (by omega)
  have hm := modP_lt (x * y)
  obtain ⟨s, hse⟩ : ∃ s, s = (x + y) % p25 := ⟨_, rfl⟩
  obtain ⟨m, hme⟩ : ∃ m, m = x * y % p25 := ⟨_, rfl⟩
  rw [← hse] at A1 e1 hs
  rw [← hme] at M1 e2 hm
  have A2 := fQAdd_spec s z (by omega) (by omega)
  have M2 := fQMul_spec m z (by omega) (by omega)
  have hs3 := modP_lt (s + z)
  have hm3 := modP_lt (m * z)
  have PA := fFdAdd_spec [x, y, z] ⟨false, true, false⟩ (by intro w hw; simp at hw; rcases hw with rfl | rfl | rfl <;> omega) (by simp)
  have PM := fFdMul_spec [x, y, z] ⟨false, true, false⟩ (by intro w hw; simp at hw; rcases hw with rfl | rfl | rfl <;> omega) (by simp)
  rw [e1] at PA
  rw [e2] at PM
  have PS := fFdSub_spec x y hx hy
  have RS := fQSub_spec x y hx hy
  have hd : subP x y < p25 := modP_lt _
  have PN := fFdNeg_spec x hx
  have RN := fQNeg_spec x hx
  have hn := negP_lt x
  have PA0 := fFdAdd_spec [] ⟨true, true, false⟩ (by simp) (by simp)
  have PM0 := fFdMul_spec [] ⟨true, true, false⟩ (by simp) (by simp)
  have e3 : ([] : List Nat).sum % p25 = 0 := by decide
  have e4 : mulP [] = 1 := rfl
  rw [e3] at PA0
  rw [e4] at PM0
  have PA1 : FSpec Try.prog 40 [.list 1 ⟨true, true, false⟩ []] [] (.agg (q4 0)) [] := FSpec.wk (by simp) PA0
  have PM1 : FSpec Try.prog 36 [.list 1 ⟨true, true, false⟩ []] [] (.agg (q4 1)) [] := FSpec.wk (by simp) PM0
  obtain ⟨r, hr⟩ : ∃ r, r = x % 2 := ⟨_, rfl⟩
  have S0 := fQSmall_spec 0 (by decide)
  have S1 := fQSmall_spec 1 (by decide)
  rw [Nat.mod_eq_of_lt (show 0 < p25 by decide)] at S0
  rw [Nat.mod_eq_of_lt (show 1 < p25 by decide)] at S1
  have hO := fFdOdd_spec x
  have hdg : dig x 0 % 2 = x % 2 := by unfold dig; rw [Nat.pow_zero, Nat.div_one]; omega
  generalize (s + z) % p25 = s3 at *
  generalize m * z % p25 = m3 at *
  generalize subP x y = d at *
  generalize negP x = n at *
  have L : ∀ u, u < 2 ^ 255 → FSpec Try.prog 25 [.agg (q4 u), .agg (q17 u)] [] (.bool true) [] := fun u hu => by
    have := fLike5_spec u u (by omega) hu
    simpa only [decide_true] using this
  have L1 := L s3 (by omega)
  have L2 := L d (by omega)
  have L3 := L m3 (by omega)
  have L4 := L n (by omega)
  have L5 := L 0 (by omega)
  have L6 := L 1 (by omega)
  clear L hse hme e1 e2 e3 e4
  generalize p25 = p at *
  refine FSpec.of_W fFdSums_low (by simp) ?_
  simp only [initEnv]
  simp
  refine WO_callP [] rfl rfl fLives5_spec (by simp) (by simp) ?_
  simp
  refine WO_callP [] rfl rfl nx (by simp) (by simp) ?_
  simp
  refine WO_callP [] rfl rfl ny (by simp) (by simp) ?_
  simp
  refine WO_callP [] rfl rfl nz (by simp) (by simp) ?_
  simp
  refine WO_callQ rfl A1 (by simp) ?_
  simp
  refine WO_callQ rfl A2 (by simp) ?_
  simp
  refine WO_callQ rfl M1 (by simp) ?_
  simp
  refine WO_callQ rfl M2 (by simp) ?_
  simp
  refine WO_callP (as' := [.list 4 ⟨false, true, false⟩ (els [x, y, z])]) [] rfl (by simp) PA (by simp) (by simp) ?_
  simp
  refine WO_callP [] rfl rfl L1 (by simp) (by simp) ?_
  simp
  refine WO_callP [] rfl rfl PS (by simp) (by simp) ?_
  simp
  refine WO_callP [] rfl rfl RS (by simp) (by simp) ?_
  simp
  refine WO_callP [] rfl rfl L2 (by simp) (by simp) ?_
  simp
  refine WO_callP (as' := [.list 4 ⟨false, true, false⟩ (els [x, y, z])]) [] rfl (by simp) PM (by simp) (by simp) ?_
  simp
  refine WO_callP [] rfl rfl L3 (by simp) (by simp) ?_
  simp
  refine WO_callP [] rfl rfl PN (by simp) (by simp) ?_
  simp
  refine WO_callP [] rfl rfl RN (by simp) (by simp) ?_
  simp
  refine WO_callP [] rfl rfl L4 (by simp) (by simp) ?_
  simp
  refine WO_callP [] rfl rfl PA1 (by simp) (by simp) ?_
  simp
  refine WO_callP [] rfl rfl S0 (by simp) (by simp) ?_
  simp
  refine WO_callP [] rfl rfl L5 (by simp) (by simp) ?_
  simp
  refine WO_callP [] rfl rfl PM1 (by simp) (by simp) ?_
  simp
  refine WO_callP [] rfl rfl S1 (by simp) (by simp) ?_
  simp
  refine WO_callP [] rfl rfl L6 (by simp) (by simp) ?_
  rw [← hr] at hdg
  have hdt : ((dig x 0 : Nat) : Int).tmod 2 = (r : Nat) := by rw [← hdg]; rfl
  have hat : atF (q17 x) 0 = ok1 (.int .i64 (dig x 0 : Nat)) := by unfold atF; rw [q17, arr_at (by decide)]
  have hr1 : ((r : Int) = 1) = (r = 1) := propext ⟨by omega, by omega⟩
  rw [← hr] at hO
  simp [hat, hdt]
  refine WO_callP [] rfl rfl hO (by simp) (by simp [hat]) ?_
  simp [hr1]
  exact fin_W (by simp)
set_option maxRecDepth 100000 in
theorem fFieldSums_law : ∀ args, AllFit Try.prog 8 Try.f8.params.toList args → FSpec Try.prog 8 args [] (.bool true) [] := by
  intro args has
  rw [show Try.f8.params.toList = [26, 26, 26] from by rw [Try.params8]] at has
  obtain ⟨a, as1, rfl, h1, has⟩ := all_cons has
  obtain ⟨b, as2, rfl, h2, has⟩ := all_cons has
  obtain ⟨c, as3, rfl, h3, has⟩ := all_cons has
  cases all_nil has
  obtain ⟨x, hx, rfl⟩ := fit_q4 Try.underlying26 Try.underlying25 h1
  obtain ⟨y, hy, rfl⟩ := fit_q4 Try.underlying26 Try.underlying25 h2
  obtain ⟨z, hz, rfl⟩ := fit_q4 Try.underlying26 Try.underlying25 h3
  exact fFieldSums_spec x y z hx hy hz
theorem inv_mul {x : Nat} (hx : x < p25) : x * invP x % p25 = if x = 0 then 0 else 1 := by
  unfold invP
  rw [Nat.mul_mod_mod]
  split
  · rename_i h; rw [h, Nat.zero_mul]; exact Nat.zero_mod _
  · rename_i h
    have hnd : ¬ p25 ∣ x := fun q => by have := Nat.le_of_dvd (by omega) q; omega
    have hf := prm_p25.fermat1 hnd
    rw [show p25 - 1 = p25 - 2 + 1 by decide, Nat.pow_succ, Nat.mul_comm] at hf
    exact hf
theorem add_neg {x : Nat} (hx : x < p25) : (x + negP x) % p25 = 0 := by
  unfold negP; split
  · rename_i h; rw [h]; exact Nat.zero_mod _
  · rw [show x + (p25 - x) = p25 by omega]; exact Nat.mod_self _
theorem sub_add {x y : Nat} (hx : x < p25) (hy : y < p25) : subP ((x + y) % p25) y = x := by
  unfold subP
  rw [Nat.mod_add_mod, Nat.add_assoc, Nat.add_mod, add_neg hy, Nat.add_zero, Nat.mod_mod, Nat.mod_eq_of_lt hx]
theorem negP_uniq {a b : Nat} (ha : a < p25) (hb : b < p25) (h : (a + b) % p25 = 0) : a = negP b := by
  have e : (a + b) % p25 = (negP b + b) % p25 := by rw [h, Nat.add_comm, add_neg hb]
  have := mod_add_cancel b e
  rwa [Nat.mod_eq_of_lt ha, Nat.mod_eq_of_lt (negP_lt b)] at this
theorem neg_mul {x : Nat} (hx : x < p25) (y : Nat) : negP x * y % p25 = negP (x * y % p25) := by
  refine negP_uniq (modP_lt _) (modP_lt _) ?_
  rw [← Nat.add_mod, ← Nat.add_mul, Nat.mul_mod, Nat.add_comm, add_neg hx, Nat.zero_mul]
  exact Nat.zero_mod _
theorem mul_add_mod (x y z : Nat) : x * ((y + z) % p25) % p25 = (x * y % p25 + x * z % p25) % p25 := by
  rw [Nat.mul_mod_mod, Nat.mul_add, Nat.add_mod]
end Go.Proofs.Ytcmjfjomfdljkaa
