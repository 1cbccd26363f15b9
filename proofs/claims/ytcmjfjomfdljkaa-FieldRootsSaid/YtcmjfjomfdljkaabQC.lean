/-
  The field: the last laws.
-/
import Derived.Test.YtcmjfjomfdljkaabQB
set_option linter.unusedSimpArgs false
set_option linter.unnecessarySimpa false
set_option linter.unusedVariables false
set_option linter.unusedSectionVars false
namespace Go.Proofs.Ytcmjfjomfdljkaa
open Go Go.Fw
attribute [local simp] bv cleanL_bv toBytes_bv ltL_bv atF_drop WS_at_bytes W_nil W_skip W_seq W_reg W_draw W_drawP W_kill W_keep W_block W_blk W_exit W_ret WX_blk WX_c WX_lp WX_li W_li W_condT W_condF W_cond WC_true WC_false
  WR_nil WR_cons WR_o1 WR_o2 o1_chk o2_chk WR_grd WG_tt WG_ff WG_tf WG_ft WG_none WS_some WS_ok1 WSr_no WSr_some WSr_ok1 WSr_at_bytes WH_some WHA_some chkF_cons chkF_nil chkE_some chkE_ok1 chkE_at evF WO_mv WO_pick WO_bin WO_isNil WO_eqA WO_un WO_convI WO_toStr WO_ofStr WO_build WO_buildF WO_load WO_nilCheck WO_fieldAddr WO_field WO_idxA WO_idxS
  WO_ixA WO_slS WO_slA WO_len WO_lenK WO_appF WO_extract WO_s2a WO_iface WO_min WO_max WO_alloc WO_box WO_buildO WO_store WO_appO WO_copy WO_makeS WO_allocA WO_makeA WO_cvt cvtF_slice WO_look lookF_map alAF mkAF WO_func bind1_v bind2_v bindH_v bindH2_v bindS_v okO_v pickO_t pickO_f
  Env.keep Env.get Env.set Env.del Env.dels Env.setO Env.opd Env.opds Env.opdO Env.parts intF aggF fillA splice cleanL AV.clean bndF fldF_one fldF_many toStrF boxF buildOF
  loadF_rptr loadF_rptrN atF_zero atF_succ blk_cons_zero blk_cons_succ loadF_p loadF_pN atB_some atBN_some retPost resL one
  okc_bool cells_bool notStr_bool okc_int cells_int notStr_int okc_str cells_str notStr_str okc_nil cells_nil notStr_nil okc_ptr cells_ptr notStr_ptr okc_rptr cells_rptr notStr_rptr okc_slice cells_slice notStr_slice 
  okc_list cells_list notStr_list okc_func cells_func notStr_func okc_nilFunc cells_nilFunc notStr_nilFunc okc_iface cells_iface notStr_iface okc_nilIface cells_nilIface notStr_nilIface okc_agg cells_agg notStr_agg 
  okc_tuple cells_tuple notStr_tuple lenF_slice lenF_list lenF_str faF_ptr faF_rptr idxSF_slice idxSF_list idxAF_ptr idxAF_rptr ixAF_many ixAF_one convF_int unF_neg unF_xor unF_not nilF_0nil nilF_0ptr nilF_0rptr nilF_1 
  nilF_2nil nilF_2f nilF_3nil nilF_3f binF_int binF_beq binF_bne binF_sadd binF_seq binF_sne sliceCells_list sliceCells_str sliceCells_slice cutC_some szAV_list szAV_str szAV_slice oneSl_list oneSl_slice slSF_sliceS 
  slSF_sliceN slSF_list slAF_rptr slAF_ptr appFF_list appOF_list appOF_sliceN appOF_sliceS storeF_ptr copyF_slice extF_tuple s2aF_slice s2aF_list nchkF_ptr nchkF_rptr nchkF_f mmF_int ofStrF_str mkSF_int eqAF_agg
attribute [local irreducible] W WX WR WO WS WSr WH WHA WG WC FSpec
attribute [local simp] lendAll
attribute [local congr] W_cg WR_cg WO_cg WS_cg WSr_cg WH_cg WHA_cg WG_cg WC_cg WX_cg
attribute [local simp] Env.has AV.wkr wkrL AV.wkr_refl wkrL_refl AV.ltI ltL leHW hasW Env.lt AV.ids idsL AV.sub subL AV.ren AV.frz frzS frzP frzE frzL Heap.frz Blk.frz Blk.ren renL rnS rnP hasR leR idsL_bv subL_bv
attribute [local simp] cleanL_take cleanL_drop ltL_take ltL_drop idsL_take idsL_drop subL_take subL_drop cleanL_append ltL_append idsL_append subL_append
attribute [local simp] renE mvN mvH
attribute [local simp] fwd backH putL bwd
attribute [local simp] u8i u8e List.idxOf_cons
attribute [local simp] hasRW leRW
attribute [local simp] els1 WS_at_map WSr_at_map WS_at_q4 WSr_at_q4 WS_at_arr WSr_at_arr loadWP splice_full Int.natCast_inj arr_zero32 z17 z34 fill_zero arr_set arr_take
theorem fFieldRules_spec (a b c : Nat) (ha : a < 2 ^ 256) (hb : b < 2 ^ 256) (hc : c < 2 ^ 256) : FSpec Try.prog 9 [.agg (q4 a), .agg (q4 b), .agg (q4 c)] [] (.bool true) [] := by
  have hpl := p25_lt
  have nx := fNum5_spec a ha
  have ny := fNum5_spec b hb
  have nz := fNum5_spec c hc
  have hx := modP_lt a
  have hy := modP_lt b
  have hz := modP_lt c
  generalize a % p25 = x at *
  generalize b % p25 = y at *
  generalize c % p25 = z at *
  have hI := fFdInvert_spec x hx
  have hv : invP x < p25 := modP_lt _
  have hi := inv_mul hx
  have mem2 : ∀ u v : Nat, u < 2 ^ 255 → v < 2 ^ 255 → ∀ w ∈ [u, v], w < 2 ^ 255 := by
    intro u v hu hv w hw; simp at hw; rcases hw with rfl | rfl <;> assumption
  have A : ∀ u v : Nat, u < p25 → v < p25 → FSpec Try.prog 40 [.list 4 ⟨false, true, false⟩ (els [u, v])] [] (.agg (q4 ((u + v) % p25))) [] := fun u v hu hv => by
    have := fFdAdd_spec [u, v] ⟨false, true, false⟩ (mem2 u v (by omega) (by omega)) (by simp)
    simpa only [List.sum_cons, List.sum_nil, Nat.add_zero] using this
  have M : ∀ u v : Nat, u < p25 → v < p25 → FSpec Try.prog 36 [.list 4 ⟨false, true, false⟩ (els [u, v])] [] (.agg (q4 (u * v % p25))) [] := fun u v hu hv => by
    have := fFdMul_spec [u, v] ⟨false, true, false⟩ (mem2 u v (by omega) (by omega)) (by simp)
    rwa [mulP2] at this
  have hone := M x (invP x) hx hv
  rw [hi] at hone
  have S0 := fFdSmall_spec 0 (by decide)
  have S1 := fFdSmall_spec 1 (by decide)
  have Axy := A x y hx hy
  have Ayx := A y x hy hx
  rw [Nat.add_comm y x] at Ayx
  have Mxy := M x y hx hy
  have Myx := M y x hy hx
  rw [Nat.mul_comm y x] at Myx
  have Ayz := A y z hy hz
  have Mxyz := M x ((y + z) % p25) hx (modP_lt _)
  rw [mul_add_mod] at Mxyz
  have Mxz := M x z hx hz
  have Ams := A (x * y % p25) (x * z % p25) (modP_lt _) (modP_lt _)
  have N1 := fFdNeg_spec x hx
  have hn := negP_lt x
  have A0 := A x (negP x) hx hn
  rw [add_neg hx] at A0
  have Ds := fFdSub_spec ((x + y) % p25) y (modP_lt _) hy
  rw [sub_add hx hy] at Ds
  have Mn := M (negP x) y hn hy
  rw [neg_mul hx y] at Mn
  have N2 := fFdNeg_spec (x * y % p25) (modP_lt _)
  have l1 := modP_lt (x + y)
  have l2 := modP_lt (x * y)
  have l3 := modP_lt (y + z)
  have l4 := modP_lt (x * z)
  have l5 := modP_lt (x * y % p25 + x * z % p25)
  have l6 := negP_lt (x * y % p25)
  clear A M mem2
  simp only [els_cons, els1, els_nil, List.append_nil] at hone Axy Ayx Mxy Myx Ayz Mxyz Mxz Ams A0 Mn
  generalize invP x = v at *
  generalize (x + y) % p25 = s1 at *
  generalize x * y % p25 = m1 at *
  generalize (y + z) % p25 = s2 at *
  generalize x * z % p25 = m2 at *
  generalize (m1 + m2) % p25 = s3 at *
  generalize negP x = n1 at *
  generalize negP m1 = n2 at *
  obtain ⟨o, ho⟩ : ∃ o, o = (if x = 0 then 0 else 1) := ⟨_, rfl⟩
  rw [← ho] at hone
  generalize p25 = p at *
  refine FSpec.of_W (c := (.seq (.reg fFdRules_r0) (.seq (.seq (.reg fFdRules_r1) (.cond (.t 15) fFdRules_k0 (.kill [15] .skip))) (.kill [6, 14, 15] (.seq (.reg fFdRules_r3) (.seq (.reg fFdRules_r4) (.seq (.reg fFdRules_r5) (.seq (.draw fFdRules_r6) (.seq (.seq (.draw fFdRules_r7) (.cond (.t 53) fFdRules_k1 (.kill [53] .skip))) (.keep [7, 9, 11] (.cut (.seq (.draw fFdRules_r9) .ret)))))))))))) fFdRules_low (by simp) ?_
  simp only [initEnv]
  simp
  refine WO_callP [] rfl rfl fLives5_spec (by simp) (by simp) ?_
  simp
  refine WO_callP [] rfl rfl nx (by simp) (by simp) ?_
  simp
  refine WO_callP [] rfl rfl ny (by simp) (by simp) ?_
  simp
  refine WO_callP [] rfl rfl nz (by simp) (by simp) ?_
  simp
  refine WO_callQ rfl hI (by simp) ?_
  simp
  refine WO_callQ rfl hone (by simp) ?_
  have i4 : ∀ {u w : Nat}, u < 2 ^ 255 → w < 2 ^ 255 → decide (ints (q4 u) = ints (q4 w)) = decide (u = w) := fun {u w} hu hw => by
    have := ints_q4 (show u < 2 ^ 256 by omega) (show w < 2 ^ 256 by omega)
    simp only [this]
  have k0 := hasK_q4 0
  have hrest : W Try.prog 0 [It.c (.seq (.draw fFdRules_r9) .ret)] [(7, .ptr 3 0), (9, .ptr 5 0), (11, .ptr 7 0)] [none, none, none, some ⟨q4 x, 43, true⟩, none, some ⟨q4 y, 43, true⟩, none, some ⟨q4 z, 43, true⟩] (retPost fFdRules_rs (fin 0 (.bool true) [])) := by
    simp
    refine WO_callP [] rfl rfl Axy (by simp) (by simp) ?_
    simp
    refine WO_callP [] rfl rfl Ayx (by simp) (by simp) ?_
    simp
    refine WO_callP [] rfl rfl Mxy (by simp) (by simp) ?_
    simp
    refine WO_callP [] rfl rfl Myx (by simp) (by simp) ?_
    simp
    refine WO_callP [] rfl rfl Ayz (by simp) (by simp) ?_
    simp
    refine WO_callP [] rfl rfl Mxyz (by simp) (by simp) ?_
    simp
    refine WO_callP [] rfl rfl Mxy (by simp) (by simp) ?_
    simp
    refine WO_callP [] rfl rfl Mxz (by simp) (by simp) ?_
    simp
    refine WO_callP [] rfl rfl Ams (by simp) (by simp) ?_
    simp
    refine WO_callP [] rfl rfl N1 (by simp) (by simp) ?_
    simp
    refine WO_callP [] rfl rfl A0 (by simp) (by simp) ?_
    simp
    refine WO_callP [] rfl rfl S0 (by simp) (by simp) ?_
    simp
    refine WO_callP [] rfl rfl Axy (by simp) (by simp) ?_
    simp
    refine WO_callP [] rfl rfl Ds (by simp) (by simp) ?_
    simp
    refine WO_callP [] rfl rfl N1 (by simp) (by simp) ?_
    simp
    refine WO_callP [] rfl rfl Mn (by simp) (by simp) ?_
    simp
    refine WO_callP [] rfl rfl Mxy (by simp) (by simp) ?_
    simp
    refine WO_callP [] rfl rfl N2 (by simp) (by simp) ?_
    simp
    exact fin_W (by simp)
  by_cases h0 : x = 0
  · rw [if_pos h0] at ho
    have e1 := i4 (show x < 2 ^ 255 by omega) (show 0 < 2 ^ 255 by decide)
    have e2 := i4 (show o < 2 ^ 255 by omega) (show 0 < 2 ^ 255 by decide)
    rw [decide_eq_true h0] at e1
    rw [decide_eq_true ho] at e2
    simp
    rw [← q4_zero]
    simp [k0, e1, e2]
    exact W_cut (cut_w (by simp)) hrest
  · rw [if_neg h0] at ho
    have e1 := i4 (show x < 2 ^ 255 by omega) (show 0 < 2 ^ 255 by decide)
    have e2 := i4 (show o < 2 ^ 255 by omega) (show 1 < 2 ^ 255 by decide)
    rw [decide_eq_false h0] at e1
    rw [decide_eq_true ho] at e2
    simp
    rw [← q4_zero]
    simp [k0, e1, e2]
    refine WO_callP [] rfl rfl S1 (by simp) (by simp) ?_
    simp [e2]
    exact W_cut (cut_w (by simp)) hrest
set_option maxRecDepth 100000 in
theorem fFieldRules_law : ∀ args, AllFit Try.prog 8 Try.f9.params.toList args → FSpec Try.prog 9 args [] (.bool true) [] := by
  intro args has
  rw [show Try.f9.params.toList = [26, 26, 26] from by rw [Try.params9]] at has
  obtain ⟨a, as1, rfl, h1, has⟩ := all_cons has
  obtain ⟨b, as2, rfl, h2, has⟩ := all_cons has
  obtain ⟨c, as3, rfl, h3, has⟩ := all_cons has
  cases all_nil has
  obtain ⟨x, hx, rfl⟩ := fit_q4 Try.underlying26 Try.underlying25 h1
  obtain ⟨y, hy, rfl⟩ := fit_q4 Try.underlying26 Try.underlying25 h2
  obtain ⟨z, hz, rfl⟩ := fit_q4 Try.underlying26 Try.underlying25 h3
  exact fFieldRules_spec x y z hx hy hz
theorem fFieldRoots_spec (a : Nat) (ha : a < 2 ^ 256) : FSpec Try.prog 7 [.agg (q4 a)] [] (.bool true) [] := by
  have hpl := p25_lt
  have nx := fNum5_spec a ha
  have hx := modP_lt a
  generalize a % p25 = x at *
  have hR := fFdRoot_spec x hx
  have hS := fQSquare_spec x hx
  have his := rootF_is x hx
  have hno := rootF_no (a := x)
  have hyes := rootF_yes (a := x)
  have h2 := rootF_sq hx
  have hx2 := modP_lt (x * x)
  have mem2 : ∀ u v : Nat, u < 2 ^ 255 → v < 2 ^ 255 → ∀ w ∈ [u, v], w < 2 ^ 255 := by
    intro u v hu hv w hw; simp at hw; rcases hw with rfl | rfl <;> assumption
  have M : ∀ u v : Nat, u < p25 → v < p25 → FSpec Try.prog 36 [.list 4 ⟨false, true, false⟩ (q4 u ++ q4 v)] [] (.agg (q4 (u * v % p25))) [] := fun u v hu hv => by
    have := fFdMul_spec [u, v] ⟨false, true, false⟩ (mem2 u v (by omega) (by omega)) (by simp)
    rw [mulP2] at this
    simpa only [els_cons, els1, els_nil, List.append_nil] using this
  have hM := M x x hx hx
  have hR2 := fFdRoot_spec (x * x % p25) hx2
  have hyes2 := rootF_yes (a := x * x % p25) h2.1
  have hN := fFdNeg_spec x hx
  have hn := negP_lt x
  rw [h2.1] at hR2
  obtain ⟨s, hs⟩ : ∃ s, s = (rootF (x * x % p25)).1 := ⟨_, rfl⟩
  rw [← hs] at hR2 hyes2
  have h3 := h2.2
  rw [← hs] at h3
  have O2 := fFdOdd_spec s
  rw [show decide (s % 2 = 1) = false from decide_eq_false (by omega)] at O2
  clear h2 hs
  generalize x * x % p25 = x2 at *
  have hrl : (rootF x).1 < p25 := by
    cases hq : (rootF x).2
    · rw [hno hq]; exact p25_pos
    · exact (hyes hq).2.1
  obtain ⟨r, hr⟩ : ∃ r, r = (rootF x).1 := ⟨_, rfl⟩
  obtain ⟨ok, hok⟩ : ∃ ok, ok = (rootF x).2 := ⟨_, rfl⟩
  rw [← hok] at his
  rw [← hr] at hrl
  rw [← hr, ← hok] at hR hyes hno
  rw [← his] at hS
  have O1 := fFdOdd_spec r
  have hF := fQFromLimbs_spec r (by omega)
  rw [Nat.mod_eq_of_lt hrl] at hF
  have hL := fQLess_spec r p25 (by omega) hpl
  have hMr := M r r hrl hrl
  have hP := fQP_spec
  have i4 : ∀ {u w : Nat}, u < 2 ^ 255 → w < 2 ^ 255 → decide (ints (q4 u) = ints (q4 w)) = decide (u = w) := fun {u w} hu hw => by
    have := ints_q4 (show u < 2 ^ 256 by omega) (show w < 2 ^ 256 by omega)
    simp only [this]
  have k0 := hasK_q4 0
  clear hr hok his M mem2
  have hrr : r * r % p25 < p25 := modP_lt _
  generalize hrr2 : r * r % p25 = rr at *
  generalize negP x = nn at *
  have hpos := p25_pos
  generalize p25 = p at *
  refine FSpec.of_W (c := (.seq (.reg fFdRoots_r0) (.seq (.seq (.reg fFdRoots_r1) (.cond (.t 10) fFdRoots_k0 (.kill [10] .skip))) (.keep [1] (.seq (.reg fFdRoots_r3) (.seq (.reg fFdRoots_r4) (.seq (.seq (.reg fFdRoots_r5) (.cond (.t 24) fFdRoots_k1 (.kill [24] .skip))) (.keep [3, 5, 6] (.seq (.seq (.draw fFdRoots_r7) (.cond (.t 53) fFdRoots_k2 (.kill [53] .skip))) (.keep [3] (.cut (.seq (.reg fFdRoots_r9) (.seq (.draw fFdRoots_r10) .ret))))))))))))) fFdRoots_low (by simp) ?_
  simp only [initEnv]
  have hrest : W Try.prog 0 [It.c (.seq (.reg fFdRoots_r9) (.seq (.draw fFdRoots_r10) .ret))] [(3, .ptr 1 0)] [none, some ⟨q4 x, 43, true⟩] (retPost fFdRoots_rs (fin 0 (.bool true) [])) := by
    simp
    refine WO_callP [] rfl rfl hM (by simp) (by simp) ?_
    simp
    refine WO_callP [] rfl rfl hR2 (by simp) (by simp) ?_
    simp
    refine WO_callP [] rfl rfl O2 (by simp) (by simp) ?_
    have e1 := i4 (show s < 2 ^ 255 by omega) (show x < 2 ^ 255 by omega)
    have e2 := i4 (show s < 2 ^ 255 by omega) (show nn < 2 ^ 255 by omega)
    simp [e1]
    by_cases hsx : s = x
    · simp [hsx]
      exact fin_W (by simp)
    · simp [hsx]
      refine WO_callP [] rfl rfl hN (by simp) (by simp) ?_
      simp [e2, h3.resolve_left hsx]
      exact fin_W (by simp)
  simp
  refine WO_callP [] rfl rfl fLives5_spec (by simp) (by simp) ?_
  simp
  refine WO_callP [] rfl rfl nx (by simp) (by simp) ?_
  simp
  refine WO_callP [] rfl rfl hR (by simp) (by simp) ?_
  simp
  refine WO_callP [] rfl rfl hS (by simp) (by simp) ?_
  simp
  cases hq : ok
  · have r0 := hno hq
    subst r0
    simp
    rw [← q4_zero]
    simp [k0]
    exact W_cut (cut_w (by simp)) hrest
  · obtain ⟨y1, y2, y3⟩ := hyes hq
    rw [show decide (r % 2 = 1) = false from decide_eq_false (by omega)] at O1
    rw [show decide (r < p) = true from decide_eq_true (by omega)] at hL
    have e1 := i4 (show rr < 2 ^ 255 by omega) (show x < 2 ^ 255 by omega)
    rw [decide_eq_true (show rr = x by omega)] at e1
    simp
    refine WO_callP [] rfl rfl O1 (by simp) (by simp) ?_
    simp
    refine WO_callP [] rfl rfl hF (by simp) (by simp) ?_
    simp
    refine WO_callP [] rfl rfl hP (by simp) (by simp) ?_
    simp
    refine WO_callP [] rfl rfl hL (by simp) (by simp) ?_
    simp
    refine WO_callP [] rfl rfl hMr (by simp) (by simp) ?_
    simp [e1]
    exact W_cut (cut_w (by simp)) hrest
set_option maxRecDepth 100000 in
theorem fFieldRoots_law : ∀ args, AllFit Try.prog 8 Try.f7.params.toList args → FSpec Try.prog 7 args [] (.bool true) [] := by
  intro args has
  rw [show Try.f7.params.toList = [26] from by rw [Try.params7]] at has
  obtain ⟨a, as1, rfl, h1, has⟩ := all_cons has
  cases all_nil has
  obtain ⟨x, hx, rfl⟩ := fit_q4 Try.underlying26 Try.underlying25 h1
  exact fFieldRoots_spec x hx
end Go.Proofs.Ytcmjfjomfdljkaa
