/-
  The document's points of bytes.
-/
import Derived.Test.YthgibibeoapfbaaeV6
set_option linter.unusedSimpArgs false
set_option linter.unnecessarySimpa false
set_option linter.unusedVariables false
set_option linter.unusedSectionVars false
namespace Go.Proofs.Ythgibibeoapfbaa
open Go Go.Fw
attribute [local simp] bv cleanL_bv toBytes_bv ltL_bv atF_drop WS_at_bytes W_nil W_skip W_seq W_reg W_draw W_drawP W_kill W_keep W_block W_blk W_exit W_ret WX_blk WX_c WX_lp WX_li W_li W_condT W_condF W_cond WC_true WC_false
  WR_nil WR_cons WR_o1 WR_o2 o1_chk o2_chk WR_grd WG_tt WG_ff WG_tf WG_ft WG_none WS_some WS_ok1 WSr_no WSr_some WSr_ok1 WSr_at_bytes WH_some WHA_some chkF_cons chkF_nil chkE_some chkE_ok1 chkE_at evF WO_mv WO_pick WO_bin WO_isNil WO_eqA WO_un WO_convI WO_toStr WO_ofStr WO_build WO_buildF WO_load WO_nilCheck WO_fieldAddr WO_field WO_idxA WO_idxS
  WO_ixA WO_slS WO_slA WO_len WO_lenK WO_appF WO_extract WO_s2a WO_iface WO_min WO_max WO_alloc WO_box WO_buildO WO_store WO_appO WO_copy WO_makeS WO_allocA WO_makeA WO_cvt cvtF_slice WO_look lookF_map alAF mkAF WO_func bind1_v bind2_v bindH_v bindH2_v bindS_v okO_v pickO_t pickO_f
  Env.keep Env.get Env.set Env.del Env.dels Env.setO Env.opd Env.opds Env.opdO Env.parts intF aggF fillA splice cleanL AV.clean bndF fldF_one fldF_many toStrF boxF buildOF
  loadF_rptr loadF_rptrN atF_zero atF_succ blk_cons_zero blk_cons_succ loadF_p loadF_pN atB_some atBN_some retPost resL one
  okc_bool cells_bool notStr_bool okc_int cells_int notStr_int okc_str cells_str notStr_str okc_nil cells_nil notStr_nil okc_ptr cells_ptr notStr_ptr okc_rptr cells_rptr notStr_rptr okc_slice cells_slice notStr_slice 
  okc_list cells_list notStr_list okc_func cells_func notStr_func okc_nilFunc cells_nilFunc notStr_nilFunc okc_iface cells_iface notStr_iface okc_nilIface cells_nilIface notStr_nilIface okc_agg cells_agg notStr_agg 
  okc_tuple cells_tuple notStr_tuple lenF_slice lenF_list lenF_str faF_ptr faF_rptr idxSF_slice idxSF_list idxAF_ptr idxAF_rptr ixAF_many ixAF_one convF_int unF_neg unF_xor unF_not nilF_0nil nilF_0ptr nilF_0rptr nilF_1 
  nilF_2nil nilF_2f nilF_3nil nilF_3f binF_int binF_beq binF_bne binF_sadd binF_seq binF_sne sliceCells_list sliceCells_str sliceCells_slice cutC_some szAV_list szAV_str szAV_slice oneSl_list oneSl_slice slSF_sliceS 
  slSF_sliceN slSF_list slAF_rptr slAF_ptr appFF_list appOF_list appOF_sliceN appOF_sliceS storeF_ptr copyF_slice extF_tuple s2aF_slice s2aF_list nchkF_ptr nchkF_rptr nchkF_f mmF_int ofStrF_str mkSF_int eqAF_agg
attribute [local irreducible] W WX WR WO WS WSr WH WHA WG WC FSpec
attribute [local simp] lendAll
attribute [local congr] W_cg WR_cg WO_cg WS_cg WSr_cg WH_cg WHA_cg WG_cg WC_cg WX_cg
attribute [local simp] Env.has AV.wkr wkrL AV.wkr_refl wkrL_refl AV.ltI ltL leHW hasW Env.lt AV.ids idsL AV.sub subL AV.ren AV.frz frzS frzP frzE frzL Heap.frz Blk.frz Blk.ren renL rnS rnP hasR leR idsL_bv subL_bv
attribute [local simp] cleanL_take cleanL_drop ltL_take ltL_drop idsL_take idsL_drop subL_take subL_drop cleanL_append ltL_append idsL_append subL_append
attribute [local simp] renE mvN mvH
attribute [local simp] fwd backH putL bwd
attribute [local simp] u8i u8e List.idxOf_cons
attribute [local simp] hasRW leRW
attribute [local simp] WS_at_map WSr_at_map loadWP splice_full Int.natCast_inj q17_d q17_t q17_t0 q17_d34 q17_t51 q17_s0 q17_s17 q17_s34 hk17
theorem toF_one : toF 1 = 1 := by apply fv_inj.1; rw [fv_toF, fv_one]; exact Nat.mod_eq_of_lt (by decide)
theorem toF_zero : toF 0 = 0 := by apply fv_inj.1; rw [fv_toF, fv_zero, Nat.zero_mod]
theorem neg_neg_gen {K : Type} [Lean.Grind.CommRing K] (a : K) : - -a = a := by grind
theorem neg_zero_gen {K : Type} [Lean.Grind.CommRing K] (a : K) : (-a = 0) = (a = 0) := by
  apply propext; constructor <;> intro h <;> grind
theorem neg_par {r : Fp} (h : r ≠ 0) : fv (-r) % 2 = 1 - fv r % 2 := by
  have h0 : fv r ≠ 0 := fun z => h (fv_inj.1 (by rw [z, fv_zero]))
  have hl := fv_lt r
  have hp : p25 % 2 = 1 := by decide
  rw [fv_neg]
  unfold negP
  rw [if_neg h0]
  omega
/-- The even root, of a root. -/
theorem root_even (q : Fp) : (rootF (fv q)).2 = decide (toF (rootR (fv q)) * toF (rootR (fv q)) = q) ∧ ((rootF (fv q)).2 = true → toF (rootF (fv q)).1 = if fv (toF (rootR (fv q))) % 2 = 1 then -toF (rootR (fv q)) else toF (rootR (fv q))) := by
  have hl := rootR_lt (fv q)
  have hc : (rootR (fv q) * rootR (fv q) % p25 = fv q) = (toF (rootR (fv q)) * toF (rootR (fv q)) = q) := by
    rw [← fv_inj, fv_mul, toF_lt hl]
  unfold rootF
  rw [toF_lt hl]
  generalize rootR (fv q) = r at *
  by_cases c : r * r % p25 = fv q
  · rw [if_pos c]
    refine ⟨(decide_eq_true (hc ▸ c)).symm, fun _ => ?_⟩
    show toF (if r % 2 = 1 then negP r else r) = _
    split
    · apply fv_inj.1; rw [fv_neg, toF_lt hl, toF_lt (negP_lt r)]
    · rfl
  · rw [if_neg c]
    exact ⟨(decide_eq_false fun z => c (hc.symm ▸ z)).symm, fun z => by cases z⟩
/-- The document's way to the point. -/
theorem decE_ref (N : Nat) (h : N % 2 ^ 255 < p25) {y q r : Fp} (hy : y = toF (N % 2 ^ 255)) (hq : q = (y * y - 1) * invF (1 + toF dP * (y * y))) (hr : r = toF (rootR (fv q))) :
    decE N = if ¬ r * r = q ∨ (2 ^ 255 ≤ N ∧ r = 0) then none else some (if decide (fv r % 2 = 1) = decide (2 ^ 255 ≤ N) then r else -r, y) := by
  obtain ⟨h1, h2⟩ := root_even q
  rw [← hr] at h1 h2
  unfold decE
  rw [if_pos h]
  simp only
  rw [← hy, ← hq]
  by_cases c : r * r = q
  · rw [decide_eq_true c] at h1
    have h2 := h2 h1
    rw [h1, h2]
    clear hr hy h1 h2 h
    have nn := neg_neg_gen r
    have nz := neg_zero_gen r
    have hz0 : r = 0 → fv r % 2 = 0 := fun z => by rw [z, fv_zero]
    generalize hm : -r = m at *
    obtain ⟨O, hO⟩ : ∃ O : Bool, O = decide (2 ^ 255 ≤ N) := ⟨_, rfl⟩
    have hOp : (2 ^ 255 ≤ N) = (O = true) := by rw [hO]; exact (decide_eq_true_eq).symm
    rw [← hO]
    simp only [hOp]
    by_cases hpar : fv r % 2 = 1
    · have hr0 : ¬ r = 0 := fun z => by rw [hz0 z] at hpar; cases hpar
      have hm0 : ¬ m = 0 := fun z => hr0 (nz ▸ z)
      cases O <;> simp [hpar, c, hr0, hm0, nn, hm]
    · by_cases hr0 : r = 0
      · cases O <;> simp [hpar, c, eq_true hr0, hm]
      · cases O <;> simp [hpar, c, hr0, hm]
  · rw [decide_eq_false c] at h1
    rw [h1, if_pos (.inl rfl), if_pos (.inl c)]
set_option maxRecDepth 100000 in
set_option maxHeartbeats 4000000 in
theorem fRCvDecode_spec (l : List UInt8) (hl : l.length = 32) : FSpec Try.prog 25 [.agg (l.map bv)] [] (match decE (byN l) with | none => .tuple [.agg (List.replicate 51 (.int .i64 0)), .bool false] | some (x, y) => .tuple [.agg (rpC ⟨x, y, 1⟩), .bool true]) [] := by
  have hfb := fQFromBytes_spec l hl
  obtain ⟨N, hN⟩ : ∃ N, N = byN l := ⟨_, rfl⟩
  rw [← hN] at hfb ⊢
  have hP := fQP_spec
  have hL := fQLess_spec (N % 2 ^ 255) p25 (Nat.mod_lt _ (by decide)) (by decide)
  have hs0 := rSmall 0 (by decide)
  have hs1 := rSmall 1 (by decide)
  rw [toF_one] at hs1
  rw [toF_zero] at hs0
  have hD := fRCvD_spec
  refine FSpec.of_W fRCvDecode_low (by simp) ?_
  simp only [initEnv]
  simp [hl, List.take_of_length_le]
  refine WO_callP [] rfl rfl hfb (by simp) (by simp) ?_
  simp
  refine WO_callP [] rfl rfl hP (by simp) (by simp) ?_
  simp
  refine WO_callP [] rfl rfl hL (by simp) (by simp) ?_
  simp
  by_cases c1 : N % 2 ^ 255 < p25
  rotate_left
  · rw [decE, if_neg c1]
    have c1' : ¬ N % 57896044618658097711785492504343953926634992332820282019728792003956564819968 < p25 := c1
    simp [c1']
    exact fin_W (by simp)
  have hdec := decE_ref N c1 rfl rfl rfl
  have hyv := toF_lt c1
  obtain ⟨y, hy⟩ : ∃ y, y = toF (N % 2 ^ 255) := ⟨_, rfl⟩
  rw [← hy] at hyv hdec
  rw [← hyv] at c1 ⊢
  have c1' : fv y < p25 := fv_lt y
  rw [hdec]
  clear hdec hP hL hfb
  obtain ⟨q, hq⟩ : ∃ q, q = (y * y - 1) * invF (1 + toF dP * (y * y)) := ⟨_, rfl⟩
  have hrt := fRCvRoot_spec q
  have m3 := rMul (y * y - 1) (invF (1 + toF dP * (y * y)))
  rw [← hq] at m3 ⊢
  have hi := rInv (1 + toF dP * (y * y))
  generalize toF dP = d at *
  obtain ⟨r, hr⟩ : ∃ r, r = toF (rootR (fv q)) := ⟨_, rfl⟩
  rw [← hr] at hrt ⊢
  have i1 : (ints (q17 (fv (r * r))) = ints (q17 (fv q))) = (r * r = q) := by rw [ints_q17 (fv_255 _) (fv_255 _)]; exact propext fv_inj
  have i2 : (ints (q17 (fv r)) = ints (q17 (fv 0))) = (r = 0) := by rw [ints_q17 (fv_255 _) (fv_255 _)]; exact propext fv_inj
  have hat : atF (q17 (fv r)) 0 = some (True, .int .i64 (dig (fv r) 0 : Nat)) := rfl
  have htm : ((dig (fv r) 0 : Nat) : Int).tmod 2 = ((fv r % 2 : Nat) : Int) := by
    have : dig (fv r) 0 % 2 = fv r % 2 := by unfold dig; omega
    rw [← this]; rfl
  have hng := rNeg r
  obtain ⟨O, hO⟩ : ∃ O : Bool, O = decide (2 ^ 255 ≤ N) := ⟨_, rfl⟩
  have hOp : (2 ^ 255 ≤ N) = (O = true) := by rw [hO]; exact (decide_eq_true_eq).symm
  have hO2 : decide (57896044618658097711785492504343953926634992332820282019728792003956564819968 ≤ N) = O := hO.symm
  rw [← hO]
  simp only [hOp]
  obtain ⟨par, hpar⟩ : ∃ par, par = fv r % 2 := ⟨_, rfl⟩
  rw [← hpar] at htm ⊢
  have hp2 : par < 2 := by omega
  clear hO hOp hy hr hpar
  simp [c1', hO2]
  refine WO_callP [] rfl rfl hs1 (by simp) (by simp) ?_
  simp
  refine WO_callP [] rfl rfl (rMul y y) (by simp) (by simp) ?_
  generalize y * y = y2 at *
  simp
  refine WO_callQ rfl (rSub y2 1) (by simp) ?_
  simp
  refine WO_callQ rfl hD (by simp) ?_
  simp
  refine WO_callQ rfl (rMul d y2) (by simp) ?_
  simp
  refine WO_callQ rfl (rAdd 1 (d * y2)) (by simp) ?_
  simp
  refine WO_callQ rfl hi (by simp) ?_
  simp
  refine WO_callQ rfl m3 (by simp) ?_
  simp
  refine WO_callP [] rfl rfl hrt (by simp) (by simp) ?_
  simp
  refine WO_callP [] rfl rfl (rMul r r) (by simp) (by simp) ?_
  simp [i1]
  by_cases c : r * r = q
  rotate_left
  · simp [c]
    exact fin_W (by simp)
  simp [c]
  cases O with
  | false =>
    simp [hat, htm]
    refine WC_dec (fun h => ?_) (fun h => ?_)
    · have h' : par = 1 := by omega
      simp
      refine WO_callP [] rfl rfl hng (by simp) (by simp) ?_
      simp [h']
      exact fin_W (by simp [rpC])
    · have h' : ¬ par = 1 := by omega
      simp [h']
      exact fin_W (by simp [rpC])
  | true =>
    simp
    refine WO_callP [] rfl rfl hs0 (by simp) (by simp) ?_
    simp [i2]
    by_cases c0 : r = 0
    · simp [c0]
      exact fin_W (by simp)
    simp [c0, hat, htm]
    by_cases h' : par = 1
    · have h2 : (par : Int) = 1 := by omega
      simp [h', h2]
      exact fin_W (by simp [rpC])
    · have h2 : ¬ (par : Int) = 1 := by omega
      simp [h', h2]
      refine WO_callP [] rfl rfl hng (by simp) (by simp) ?_
      simp
      exact fin_W (by simp [rpC])
/-- The bytes of the base. -/
def baseL : List UInt8 := 88 :: List.replicate 31 102
def baseX : Nat := 15112221349535400772501151409588531511454012693041857206046113283949847762202
def baseY : Nat := 46316835694926478169428394003475163141307993866256225615783033603165251855960
theorem baseN : byN baseL = baseY := by decide +kernel
theorem baseX_lt : baseX < p25 := by decide +kernel
theorem baseY_lt : baseY < p25 := by decide +kernel
theorem one_of {K : Type} [Lean.Grind.CommRing K] (d : K) (h : 1 + d * (0 * 0) = 0) : (1 : K) = 0 := by grind
theorem sq_neg_gen {K : Type} [Lean.Grind.CommRing K] (a : K) : -a * -a = a * a := by grind
theorem m1_gen {K : Type} [Lean.Grind.CommRing K] (d y : K) (h : 1 + d * (y * y) = 0) : d * y * y = -1 := by grind
theorem on_gen {K : Type} [Lean.Grind.CommRing K] (d x y i q : K) (h1 : x * x = q) (hq : q = (y * y - 1) * i) (hu : (1 + d * (y * y)) * i = 1) : Cv.E d x y = 0 := by unfold Cv.E; grind
theorem on_q_gen {K : Type} [Lean.Grind.CommRing K] (d x y i : K) (h : Cv.E d x y = 0) (hu : (1 + d * (y * y)) * i = 1) : (y * y - 1) * i = x * x := by unfold Cv.E at h; grind
theorem on_sum_gen {K : Type} [Lean.Grind.CommRing K] (d x y : K) (h : y * y = x * x + 1 + d * x * x * y * y) : Cv.E d x y = 0 := by unfold Cv.E; grind
theorem base_on : Cv.E (toF dP) (toF baseX) (toF baseY) = 0 := by
  have h : toF baseY * toF baseY = toF baseX * toF baseX + 1 + toF dP * toF baseX * toF baseX * toF baseY * toF baseY := by
    apply fv_inj.1
    simp only [fv_add, fv_mul, toF_lt baseX_lt, toF_lt baseY_lt, toF_lt dP_lt, fv_one]
    decide +kernel
  exact on_sum_gen _ _ _ h
theorem under_ne (y : Fp) : 1 + toF dP * (y * y) ≠ 0 := by
  intro h
  have h1 : FP.d * y * y = FP.s * FP.s := by
    rw [FP.hs]
    exact m1_gen (toF dP) y h
  have h2 := FP.hd _ _ h1
  rw [h2] at h
  exact FP.one (one_of _ h)
/-- A point's first number, by its second. -/
theorem on_q {x y : Fp} (h : Cv.E (toF dP) x y = 0) : (y * y - 1) * invF (1 + toF dP * (y * y)) = x * x := by
  exact on_q_gen _ _ _ _ h (invF_mul _ (under_ne y))
theorem decE_on {x y : Fp} {N : Nat} (h : decE N = some (x, y)) : Cv.E (toF dP) x y = 0 ∧ N % 2 ^ 255 = fv y ∧ (fv x % 2 = 1 ↔ 2 ^ 255 ≤ N) := by
  by_cases c1 : N % 2 ^ 255 < p25
  rotate_left
  · rw [decE, if_neg c1] at h; cases h
  have hyv := toF_lt c1
  rw [decE_ref N c1 rfl rfl rfl] at h
  generalize toF (N % 2 ^ 255) = Y at *
  have hu := invF_mul _ (under_ne Y)
  obtain ⟨q, hq⟩ : ∃ q, q = (Y * Y - 1) * invF (1 + toF dP * (Y * Y)) := ⟨_, rfl⟩
  rw [← hq] at h
  generalize toF (rootR (fv q)) = r at *
  split at h
  · cases h
  rename_i hn
  have hrq : r * r = q := Classical.not_not.1 fun z => hn (.inl z)
  have hr0 : 2 ^ 255 ≤ N → r ≠ 0 := fun a b => hn (.inr ⟨a, b⟩)
  have hx : x * x = q ∧ y = Y := by
    simp only [Option.some.injEq, Prod.mk.injEq] at h
    refine ⟨?_, h.2.symm⟩
    rw [← h.1, ← hrq]
    split
    · rfl
    · exact sq_neg_gen r
  have hon : Cv.E (toF dP) x y = 0 := by
    rw [hx.2]
    exact on_gen _ _ _ _ q hx.1 hq hu
  refine ⟨hon, by rw [hx.2]; exact hyv.symm, ?_⟩
  simp only [Option.some.injEq, Prod.mk.injEq] at h
  rw [← h.1]
  have hr00 : r = 0 → fv r = 0 := fun z => by rw [z, fv_zero]
  by_cases hO : 2 ^ 255 ≤ N
  · have hnp := neg_par (hr0 hO)
    by_cases hp : fv r % 2 = 1
    · rw [if_pos (by rw [decide_eq_true hp, decide_eq_true hO])]
      exact ⟨fun _ => hO, fun _ => hp⟩
    · rw [if_neg (by rw [decide_eq_false hp, decide_eq_true hO]; simp)]
      exact ⟨fun _ => hO, fun _ => by omega⟩
  · by_cases hp : fv r % 2 = 1
    · have hrn : r ≠ 0 := fun z => by rw [hr00 z] at hp; cases hp
      have hnp := neg_par hrn
      rw [if_neg (by rw [decide_eq_true hp, decide_eq_false hO]; simp)]
      exact ⟨fun z => by omega, fun z => absurd z hO⟩
    · rw [if_pos (by rw [decide_eq_false hp, decide_eq_false hO])]
      exact ⟨fun z => absurd z hp, fun z => absurd z hO⟩
end Go.Proofs.Ythgibibeoapfbaa
