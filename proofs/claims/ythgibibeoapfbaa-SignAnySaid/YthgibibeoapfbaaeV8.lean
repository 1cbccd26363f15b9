/-
  The base.
-/
import Derived.Test.YthgibibeoapfbaaeV7
set_option linter.unusedSimpArgs false
set_option linter.unnecessarySimpa false
set_option linter.unusedVariables false
set_option linter.unusedSectionVars false
namespace Go.Proofs.Ythgibibeoapfbaa
open Go Go.Fw
attribute [local simp] bv cleanL_bv toBytes_bv ltL_bv atF_drop WS_at_bytes W_nil W_skip W_seq W_reg W_draw W_drawP W_kill W_keep W_block W_blk W_exit W_ret WX_blk WX_c WX_lp WX_li W_li W_condT W_condF W_cond WC_true WC_false
  WR_nil WR_cons WR_o1 WR_o2 o1_chk o2_chk WR_grd WG_tt WG_ff WG_tf WG_ft WG_none WS_some WS_ok1 WSr_no WSr_some WSr_ok1 WSr_at_bytes WH_some WHA_some chkF_cons chkF_nil chkE_some chkE_ok1 chkE_at evF WO_mv WO_pick WO_bin WO_isNil WO_eqA WO_un WO_convI WO_toStr WO_ofStr WO_build WO_buildF WO_load WO_nilCheck WO_fieldAddr WO_field WO_idxA WO_idxS
  WO_ixA WO_slS WO_slA WO_len WO_lenK WO_appF WO_extract WO_s2a WO_iface WO_min WO_max WO_alloc WO_box WO_buildO WO_store WO_appO WO_copy WO_makeS WO_allocA WO_makeA WO_cvt cvtF_slice WO_look lookF_map alAF mkAF WO_func bind1_v bind2_v bindH_v bindH2_v bindS_v okO_v pickO_t pickO_f
  Env.keep Env.get Env.set Env.del Env.dels Env.setO Env.opd Env.opds Env.opdO Env.parts intF aggF fillA splice cleanL AV.clean bndF fldF_one fldF_many toStrF boxF buildOF
  loadF_rptr loadF_rptrN atF_zero atF_succ blk_cons_zero blk_cons_succ loadF_p loadF_pN atB_some atBN_some retPost resL one
  okc_bool cells_bool notStr_bool okc_int cells_int notStr_int okc_str cells_str notStr_str okc_nil cells_nil notStr_nil okc_ptr cells_ptr notStr_ptr okc_rptr cells_rptr notStr_rptr okc_slice cells_slice notStr_slice 
  okc_list cells_list notStr_list okc_func cells_func notStr_func okc_nilFunc cells_nilFunc notStr_nilFunc okc_iface cells_iface notStr_iface okc_nilIface cells_nilIface notStr_nilIface okc_agg cells_agg notStr_agg 
  okc_tuple cells_tuple notStr_tuple lenF_slice lenF_list lenF_str faF_ptr faF_rptr idxSF_slice idxSF_list idxAF_ptr idxAF_rptr ixAF_many ixAF_one convF_int unF_neg unF_xor unF_not nilF_0nil nilF_0ptr nilF_0rptr nilF_1 
  nilF_2nil nilF_2f nilF_3nil nilF_3f binF_int binF_beq binF_bne binF_sadd binF_seq binF_sne sliceCells_list sliceCells_str sliceCells_slice cutC_some szAV_list szAV_str szAV_slice oneSl_list oneSl_slice slSF_sliceS 
  slSF_sliceN slSF_list slAF_rptr slAF_ptr appFF_list appOF_list appOF_sliceN appOF_sliceS storeF_ptr copyF_slice extF_tuple s2aF_slice s2aF_list nchkF_ptr nchkF_rptr nchkF_f mmF_int ofStrF_str mkSF_int eqAF_agg
attribute [local irreducible] W WX WR WO WS WSr WH WHA WG WC FSpec
attribute [local simp] lendAll
attribute [local congr] W_cg WR_cg WO_cg WS_cg WSr_cg WH_cg WHA_cg WG_cg WC_cg WX_cg
attribute [local simp] Env.has AV.wkr wkrL AV.wkr_refl wkrL_refl AV.ltI ltL leHW hasW Env.lt AV.ids idsL AV.sub subL AV.ren AV.frz frzS frzP frzE frzL Heap.frz Blk.frz Blk.ren renL rnS rnP hasR leR idsL_bv subL_bv
attribute [local simp] cleanL_take cleanL_drop ltL_take ltL_drop idsL_take idsL_drop subL_take subL_drop cleanL_append ltL_append idsL_append subL_append
attribute [local simp] renE mvN mvH
attribute [local simp] fwd backH putL bwd
attribute [local simp] u8i u8e List.idxOf_cons
attribute [local simp] hasRW leRW
attribute [local simp] WS_at_map WSr_at_map loadWP splice_full Int.natCast_inj
theorem ltL_rep8 (m k : Nat) (c : Int) : ltL m (List.replicate k (AV.int .u8 c)) = true := by
  induction k with
  | zero => rfl
  | succ k ih => rw [List.replicate_succ]; simp [ltL, AV.ltI, ih]
attribute [local simp] ltL_rep8
theorem two_roots {K : Type} [Lean.Grind.CommRing K] (F : Cv.Fld K) {r x : K} (h : r * r = x * x) : r = x ∨ r = -x := by
  have h1 : (r - x) * (r + x) = 0 := by grind
  rcases F.nz _ _ h1 with q | q
  · left; grind
  · right; grind
theorem neg_zero_K {K : Type} [Lean.Grind.CommRing K] {x : K} (h : x = 0) : -x = x := by grind
theorem decE_of {x y : Fp} {N : Nat} (hon : Cv.E (toF dP) x y = 0) (hN : N % 2 ^ 255 = fv y) (hp : fv x % 2 = 1 ↔ 2 ^ 255 ≤ N) : decE N = some (x, y) := by
  have c1 : N % 2 ^ 255 < p25 := by rw [hN]; exact fv_lt y
  have hyt : toF (N % 2 ^ 255) = y := by rw [hN, toF_fv]
  have hqx := on_q hon
  rw [decE_ref N c1 hyt.symm hqx.symm rfl]
  have hs := rootR_sq (fv_lt x)
  rw [← fv_mul] at hs
  have hrr : toF (rootR (fv (x * x))) * toF (rootR (fv (x * x))) = x * x := by
    apply fv_inj.1
    rw [fv_mul, toF_lt (rootR_lt _), hs]
  generalize toF (rootR (fv (x * x))) = r at *
  have hx0 : x = 0 → fv x % 2 = 0 := fun z => by rw [z, fv_zero]
  rcases two_roots FP hrr with q | q
  · subst q
    have h0 : ¬ (2 ^ 255 ≤ N ∧ r = 0) := fun z => by have := hp.2 z.1; rw [hx0 z.2] at this; cases this
    rw [if_neg (fun z => z.elim (fun w => w rfl) h0), if_pos (decide_eq_decide.2 hp)]
  · have h0 : ¬ (2 ^ 255 ≤ N ∧ r = 0) := fun z => by
      have hxz : x = 0 := by rw [z.2] at q; exact (neg_zero_gen x) ▸ q.symm
      have := hp.2 z.1; rw [hx0 hxz] at this; cases this
    rw [if_neg (fun z => z.elim (fun w => w hrr) h0)]
    by_cases hxz : x = 0
    · have hrx : r = x := by rw [q]; exact neg_zero_K hxz
      rw [hrx, if_pos (decide_eq_decide.2 hp)]
    · have hnp := neg_par hxz
      rw [← q] at hnp
      rw [if_neg (fun z => ?_), q, neg_neg_gen]
      have := decide_eq_decide.1 z
      rw [← hp] at this
      omega
theorem base_dec : decE (byN baseL) = some (toF baseX, toF baseY) := by
  rw [baseN]
  refine decE_of base_on ?_ ?_
  · rw [toF_lt baseY_lt]; exact Nat.mod_eq_of_lt (Nat.lt_of_lt_of_le baseY_lt (by decide))
  · rw [toF_lt baseX_lt]
    constructor
    · intro h; exact absurd h (by decide)
    · intro h; exact absurd (Nat.lt_of_lt_of_le baseY_lt (by decide)) (Nat.not_lt.2 h)
set_option maxRecDepth 100000 in
theorem fCvBase_spec : FSpec Try.prog 41 [] [] (.agg (ptC (atE (toF baseX) (toF baseY)))) [] := by
  have hd := fCvDecode_spec baseL rfl
  rw [base_dec] at hd
  simp only at hd
  generalize atE (toF baseX) (toF baseY) = B at *
  simp [baseL, bv] at hd
  refine FSpec.of_W fCvBase_low (by simp) ?_
  simp only [initEnv]
  simp
  refine W_loop (X := { i : Nat // i ≤ 32 }) (fun i => [(0, .ptr 0 0), (1, .ptr 1 0), (5, .int .i64 i.1)]) (fun i => [some ⟨ptC zeroE, 51, true⟩, some ⟨(List.replicate i.1 (102 : UInt8) ++ List.replicate (32 - i.1) 0).map bv, 23, true⟩]) (fun i => 32 - i.1) ⟨0, by omega⟩ retPost_le ?_ ?_
  · exact cut_w (by simp [ptC, q4, zeroE, wd00, bv])
  · rintro ⟨i, hi⟩
    simp only
    simp [ptC, q4, zeroE, wd00]
    refine WC_dec (fun h => ?_) (fun h => ?_)
    · have w1 : IntKind.i64.wrap ((i : Int) + 1) = (i : Int) + 1 := wrap64s (by omega) (by omega)
      have e2 : List.replicate i (AV.int .u8 102) ++ (List.replicate (32 - i) (AV.int .u8 0)).set 0 (.int .u8 102) = List.replicate (i + 1) (AV.int .u8 102) ++ List.replicate (32 - (i + 1)) (AV.int .u8 0) := by
        rw [show 32 - i = (32 - (i + 1)) + 1 by omega, List.replicate_succ, List.set_cons_zero, List.replicate_succ', List.append_assoc]
        rfl
      simp [e2]
      repeat (refine ⟨by omega, ?_⟩)
      exact ⟨⟨i + 1, by omega⟩, by simp; omega, cut_w (by simp [ptC, q4, zeroE, wd00, bv, e2, w1])⟩
    · have : i = 32 := by omega
      subst this
      simp
      refine WO_callP [] rfl rfl hd (by simp [ptC, q4]) (by simp) ?_
      simp [ptC, q4]
      exact fin_W (by simp [ptC, q4])
set_option maxRecDepth 100000 in
theorem fRCvBase_spec : FSpec Try.prog 89 [] [] (.agg (rpC ⟨toF baseX, toF baseY, 1⟩)) [] := by
  have hd := fRCvDecode_spec baseL rfl
  rw [base_dec] at hd
  simp only at hd
  generalize toF baseX = x at *
  generalize toF baseY = y at *
  simp [baseL, bv] at hd
  have hl : (rpC ⟨x, y, 1⟩).length = 51 := by simp [rpC]
  have ht : (rpC ⟨x, y, 1⟩).take 51 = rpC ⟨x, y, 1⟩ := List.take_of_length_le (by omega)
  have hc : idsL (fun _ => false) (rpC ⟨x, y, 1⟩) = true ∧ cleanL (rpC ⟨x, y, 1⟩) = true := by simp [rpC]
  have hlt : ∀ n, ltL n (rpC ⟨x, y, 1⟩) = true := by intro n; simp [rpC]
  generalize rpC ⟨x, y, 1⟩ = R at *
  refine FSpec.of_W fRCvBase_low (by simp) ?_
  simp only [initEnv]
  simp
  refine W_loop (X := { i : Nat // i ≤ 32 }) (fun i => [(0, .ptr 0 0), (1, .ptr 1 0), (2, .int .i64 i.1)]) (fun i => [some ⟨List.replicate 51 (.int .i64 0), 57, true⟩, some ⟨(List.replicate i.1 (102 : UInt8) ++ List.replicate (32 - i.1) 0).map bv, 23, true⟩]) (fun i => 32 - i.1) ⟨0, by omega⟩ retPost_le ?_ ?_
  · exact cut_w (by simp [bv])
  · rintro ⟨i, hi⟩
    simp only
    simp
    refine WC_dec (fun h => ?_) (fun h => ?_)
    · have w1 : IntKind.i64.wrap ((i : Int) + 1) = (i : Int) + 1 := wrap64s (by omega) (by omega)
      have e2 : List.replicate i (AV.int .u8 102) ++ (List.replicate (32 - i) (AV.int .u8 0)).set 0 (.int .u8 102) = List.replicate (i + 1) (AV.int .u8 102) ++ List.replicate (32 - (i + 1)) (AV.int .u8 0) := by
        rw [show 32 - i = (32 - (i + 1)) + 1 by omega, List.replicate_succ, List.set_cons_zero, List.replicate_succ', List.append_assoc]
        rfl
      simp [e2]
      repeat (refine ⟨by omega, ?_⟩)
      exact ⟨⟨i + 1, by omega⟩, by simp; omega, cut_w (by simp [bv, e2, w1])⟩
    · have : i = 32 := by omega
      subst this
      simp
      refine WO_callP [] rfl rfl hd (by simp [hc]) (by simp) ?_
      simp [hl, ht, hc]
      exact fin_W (by simp [hlt])
/-- The base. -/
noncomputable def P0 : Cv.Pt FP := ⟨toF baseX, toF baseY, base_on⟩
theorem rep_at (P : Cv.Pt FP) : Cv.Rep (atE P.x P.y) P := by
  have h1 : ∀ a : Fp, a = a * 1 := fun a => (Cv.tri1 (K := Fp) a).trans (by rw [Fin.one_mul])
  exact ⟨FP.one, h1 _, h1 _, h1 _⟩
theorem rep_none : Cv.Rep noneE (Cv.zero FP) := rep_at (Cv.zero FP)
theorem whole_rep {p : Cv.EP Fp} {P : Cv.Pt FP} (h : Cv.Rep p P) : wholeE p = p := if_neg fun z => h.z z.2.2.1
theorem rrep_at (P : Cv.Pt FP) : Cv.RRep ⟨P.x, P.y, 1⟩ P := by
  have h1 : ∀ a : Fp, a = a * 1 := fun a => (Cv.tri1 (K := Fp) a).trans (by rw [Fin.one_mul])
  exact ⟨FP.one, h1 _, h1 _⟩
theorem rrep_none : Cv.RRep noneR (Cv.zero FP) := by
  unfold noneR
  rw [toF_zero, toF_one]
  exact rrep_at (Cv.zero FP)
theorem bits_step (n k : Nat) (hk : k < 256) : n / 2 ^ (256 - (k + 1)) = n / 2 ^ (256 - k) + n / 2 ^ (256 - k) + n / 2 ^ (255 - k) % 2 := by
  have h1 : 256 - (k + 1) = 255 - k := by omega
  have h2 : 256 - k = (255 - k) + 1 := by omega
  rw [h1, h2, Nat.pow_succ, ← Nat.div_div_eq_div_mul]
  omega
theorem times_rep {p : Cv.EP Fp} {P : Cv.Pt FP} (h : Cv.Rep p P) (n : Nat) (hn : n < 2 ^ 256) : ∀ k, k ≤ 256 → Cv.Rep (timesE p n k) (Cv.smul (n / 2 ^ (256 - k)) P)
  | 0, _ => by
    rw [Nat.sub_zero, Nat.div_eq_of_lt hn]
    exact rep_none
  | k + 1, hk => by
    have ih := times_rep h n hn k (by omega)
    have hd := Cv.sum_rep ih ih
    rw [← Cv.smul_add] at hd
    rw [bits_step n k (by omega)]
    show Cv.Rep (if n / 2 ^ (255 - k) % 2 = 1 then Cv.sumE (toF dP) (Cv.sumE (toF dP) (timesE p n k) (timesE p n k)) p else Cv.sumE (toF dP) (timesE p n k) (timesE p n k)) _
    by_cases c : n / 2 ^ (255 - k) % 2 = 1
    · rw [if_pos c, c]
      exact Cv.sum_rep hd h
    · rw [if_neg c, show n / 2 ^ (255 - k) % 2 = 0 by omega]
      exact hd
theorem timesR_rep {p : Cv.RP Fp} {P : Cv.Pt FP} (h : Cv.RRep p P) (n : Nat) (hn : n < 2 ^ 256) : ∀ k, k ≤ 256 → Cv.RRep (timesR p n (toF dP) k) (Cv.smul (n / 2 ^ (256 - k)) P)
  | 0, _ => by
    rw [Nat.sub_zero, Nat.div_eq_of_lt hn]
    exact rrep_none
  | k + 1, hk => by
    have ih := timesR_rep h n hn k (by omega)
    have hd := Cv.addR_rep ih ih
    rw [← Cv.smul_add] at hd
    rw [bits_step n k (by omega)]
    show Cv.RRep (if n / 2 ^ (255 - k) % 2 = 1 then Cv.addR (toF dP) (Cv.addR (toF dP) (timesR p n (toF dP) k) (timesR p n (toF dP) k)) p else Cv.addR (toF dP) (timesR p n (toF dP) k) (timesR p n (toF dP) k)) _
    by_cases c : n / 2 ^ (255 - k) % 2 = 1
    · rw [if_pos c, c]
      exact Cv.addR_rep hd h
    · rw [if_neg c, show n / 2 ^ (255 - k) % 2 = 0 by omega]
      exact hd
theorem times256 {p : Cv.EP Fp} {P : Cv.Pt FP} (h : Cv.Rep p P) {n : Nat} (hn : n < 2 ^ 256) : Cv.Rep (timesE (wholeE p) n 256) (Cv.smul n P) := by
  have := times_rep h n hn 256 (Nat.le_refl _)
  rw [Nat.sub_self, Nat.pow_zero, Nat.div_one] at this
  rw [whole_rep h]; exact this
theorem timesR256 {p : Cv.RP Fp} {P : Cv.Pt FP} (h : Cv.RRep p P) {n : Nat} (hn : n < 2 ^ 256) : Cv.RRep (timesR p n (toF dP) 256) (Cv.smul n P) := by
  have := timesR_rep h n hn 256 (Nat.le_refl _)
  rw [Nat.sub_self, Nat.pow_zero, Nat.div_one] at this
  exact this
theorem same_gen {K : Type} [Lean.Grind.CommRing K] (F : Cv.Fld K) {a b z w : K} (hz : z ≠ 0) (hw : w ≠ 0) : (a * z * w = b * w * z) ↔ a = b := by
  constructor
  · intro h
    have h2 : (a - b) * (z * w) = 0 := by grind
    rcases F.nz _ _ h2 with q | q
    · grind
    · exact absurd q (F.mul_ne hz hw)
  · rintro rfl; grind
theorem sameE_rep {p q : Cv.EP Fp} {P Q : Cv.Pt FP} (hp : Cv.Rep p P) (hq : Cv.Rep q Q) : sameE p q = true ↔ P = Q := by
  unfold sameE
  rw [whole_rep hp, whole_rep hq, Bool.and_eq_true, decide_eq_true_eq, decide_eq_true_eq, hp.x, hq.x, hp.y, hq.y, same_gen FP hp.z hq.z, same_gen FP hp.z hq.z]
  exact ⟨fun h => Cv.Pt.eq h.1 h.2, fun h => by rw [h]; exact ⟨rfl, rfl⟩⟩
theorem sameR_rep {p q : Cv.RP Fp} {P Q : Cv.Pt FP} (hp : Cv.RRep p P) (hq : Cv.RRep q Q) : sameR p q = true ↔ P = Q := by
  unfold sameR
  rw [Bool.and_eq_true, decide_eq_true_eq, decide_eq_true_eq, hp.x, hq.x, hp.y, hq.y, same_gen FP hp.z hq.z, same_gen FP hp.z hq.z]
  exact ⟨fun h => Cv.Pt.eq h.1 h.2, fun h => by rw [h]; exact ⟨rfl, rfl⟩⟩
end Go.Proofs.Ythgibibeoapfbaa
