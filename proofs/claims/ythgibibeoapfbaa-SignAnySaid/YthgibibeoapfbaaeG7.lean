/-
  The document's digest: turns.
-/
import Derived.Test.YthgibibeoapfbaaeKM
set_option linter.unusedSimpArgs false
set_option linter.unnecessarySimpa false
set_option linter.unusedVariables false
set_option linter.unusedSectionVars false
namespace Go.Proofs.Ythgibibeoapfbaa
open Go Go.Fw
attribute [local simp] bv cleanL_bv toBytes_bv ltL_bv atF_drop WS_at_bytes W_nil W_skip W_seq W_reg W_draw W_drawP W_kill W_keep W_block W_blk W_exit W_ret WX_blk WX_c WX_lp WX_li W_li W_condT W_condF W_cond WC_true WC_false
  WR_nil WR_cons WR_o1 WR_o2 o1_chk o2_chk WR_grd WG_tt WG_ff WG_tf WG_ft WG_none WS_some WS_ok1 WSr_no WSr_some WSr_ok1 WSr_at_bytes WH_some WHA_some chkF_cons chkF_nil chkE_some chkE_ok1 chkE_at evF WO_mv WO_pick WO_bin WO_isNil WO_eqA WO_un WO_convI WO_toStr WO_ofStr WO_build WO_buildF WO_load WO_nilCheck WO_fieldAddr WO_field WO_idxA WO_idxS
  WO_ixA WO_slS WO_slA WO_len WO_lenK WO_appF WO_extract WO_s2a WO_iface WO_min WO_max WO_alloc WO_box WO_buildO WO_store WO_appO WO_copy WO_makeS WO_allocA WO_makeA WO_cvt cvtF_slice WO_look lookF_map alAF mkAF WO_func bind1_v bind2_v bindH_v bindH2_v bindS_v okO_v pickO_t pickO_f
  Env.keep Env.get Env.set Env.del Env.dels Env.setO Env.opd Env.opds Env.opdO Env.parts intF aggF fillA splice cleanL AV.clean bndF fldF_one fldF_many toStrF boxF buildOF
  loadF_rptr loadF_rptrN atF_zero atF_succ blk_cons_zero blk_cons_succ loadF_p loadF_pN atB_some atBN_some retPost resL one
  okc_bool cells_bool notStr_bool okc_int cells_int notStr_int okc_str cells_str notStr_str okc_nil cells_nil notStr_nil okc_ptr cells_ptr notStr_ptr okc_rptr cells_rptr notStr_rptr okc_slice cells_slice notStr_slice 
  okc_list cells_list notStr_list okc_func cells_func notStr_func okc_nilFunc cells_nilFunc notStr_nilFunc okc_iface cells_iface notStr_iface okc_nilIface cells_nilIface notStr_nilIface okc_agg cells_agg notStr_agg 
  okc_tuple cells_tuple notStr_tuple lenF_slice lenF_list lenF_str faF_ptr faF_rptr idxSF_slice idxSF_list idxAF_ptr idxAF_rptr ixAF_many ixAF_one convF_int unF_neg unF_xor unF_not nilF_0nil nilF_0ptr nilF_0rptr nilF_1 
  nilF_2nil nilF_2f nilF_3nil nilF_3f binF_int binF_beq binF_bne binF_sadd binF_seq binF_sne sliceCells_list sliceCells_str sliceCells_slice cutC_some szAV_list szAV_str szAV_slice oneSl_list oneSl_slice slSF_sliceS 
  slSF_sliceN slSF_list slAF_rptr slAF_ptr appFF_list appOF_list appOF_sliceN appOF_sliceS storeF_ptr copyF_slice extF_tuple s2aF_slice s2aF_list nchkF_ptr nchkF_rptr nchkF_f mmF_int ofStrF_str mkSF_int eqAF_agg
attribute [local irreducible] W WX WR WO WS WSr WH WHA WG WC FSpec
attribute [local simp] lendAll
attribute [local congr] W_cg WR_cg WO_cg WS_cg WSr_cg WH_cg WHA_cg WG_cg WC_cg WX_cg
attribute [local simp] Env.has AV.wkr wkrL AV.wkr_refl wkrL_refl AV.ltI ltL leHW hasW Env.lt AV.ids idsL AV.sub subL AV.ren AV.frz frzS frzP frzE frzL Heap.frz Blk.frz Blk.ren renL rnS rnP hasR leR idsL_bv subL_bv
attribute [local simp] cleanL_take cleanL_drop ltL_take ltL_drop idsL_take idsL_drop subL_take subL_drop cleanL_append ltL_append idsL_append subL_append
attribute [local simp] renE mvN mvH
attribute [local simp] fwd backH putL bwd
attribute [local simp] u8i u8e List.idxOf_cons
attribute [local simp] hasRW leRW
attribute [local simp] WS_at_map WSr_at_map WS_at_arr WSr_at_arr loadWP splice_full Int.natCast_inj arr_set arr_take
/-- Words of so many bits that the document speaks of. -/
def OkM (m : Nat) : Prop := m = 32 ∨ m = 64
/-- A form's cells. -/
def frm {m : Nat} (F : Sha m) : List AV := [.int .i64 (m : Nat), .int .i64 (F.R : Nat), .int .i64 (F.A.1 : Nat), .int .i64 (F.A.2.1 : Nat), .int .i64 (F.A.2.2 : Nat), .int .i64 (F.E.1 : Nat), .int .i64 (F.E.2.1 : Nat), .int .i64 (F.E.2.2 : Nat), .int .i64 (F.s0.1 : Nat), .int .i64 (F.s0.2.1 : Nat), .int .i64 (F.s0.2.2 : Nat), .int .i64 (F.s1.1 : Nat), .int .i64 (F.s1.2.1 : Nat), .int .i64 (F.s1.2.2 : Nat)]
@[simp] theorem ltL_frm {m : Nat} (n : Nat) (F : Sha m) : ltL n (frm F) = true := by simp [frm]
@[simp] theorem idsL_frm {m : Nat} (q : Nat → Bool) (F : Sha m) : idsL q (frm F) = true := by simp [frm]
@[simp] theorem subL_frm {m : Nat} (s : Nat → Nat → Nat → Nat → Option Nat → AV) (p : Nat → Nat → AV) (F : Sha m) : subL s p (frm F) = frm F := by simp [frm]
@[simp] theorem cleanL_frm {m : Nat} (F : Sha m) : cleanL (frm F) = true := by simp [frm]
@[simp] theorem frm_length {m : Nat} (F : Sha m) : (frm F).length = 14 := by simp [frm]
@[simp] theorem frm_take {m : Nat} (F : Sha m) : (frm F).take 14 = frm F := by simp [frm]
theorem frm_R {m : Nat} (F : Sha m) : atF (frm F) 1 = ok1 (.int .i64 (F.R : Nat)) := rfl
def tL (t : Nat × Nat × Nat) : List AV := [.int .i64 (t.1 : Nat), .int .i64 (t.2.1 : Nat), .int .i64 (t.2.2 : Nat)]
theorem frm_A {m : Nat} (F : Sha m) : ((frm F).drop 2).take 3 = tL F.A := rfl
theorem frm_E {m : Nat} (F : Sha m) : ((frm F).drop 5).take 3 = tL F.E := rfl
theorem frm_s0 {m : Nat} (F : Sha m) : ((frm F).drop 8).take 3 = tL F.s0 := rfl
theorem frm_s1 {m : Nat} (F : Sha m) : ((frm F).drop 11).take 3 = tL F.s1 := rfl
@[simp] theorem idsL_tL (q : Nat → Bool) (t : Nat × Nat × Nat) : idsL q (tL t) = true := by simp [tL]
@[simp] theorem ltL_tL (n : Nat) (t : Nat × Nat × Nat) : ltL n (tL t) = true := by simp [tL]
@[simp] theorem subL_tL (s : Nat → Nat → Nat → Nat → Option Nat → AV) (p : Nat → Nat → AV) (t : Nat × Nat × Nat) : subL s p (tL t) = tL t := by simp [tL]
theorem fLong_spec : FSpec Try.prog 123 [] [] (.agg (frm F64)) [] := by
  refine FSpec.of_W fLong_low (by simp) ?_
  simp only [initEnv]
  simp
  exact fin_W (by simp [frm, F64])
section
variable {m : Nat} (F : Sha m)
theorem fCut3_spec (hm : OkM m) (v : Nat) (hv : v < 2 ^ 64) : FSpec Try.prog 106 [.agg (frm F), .int .u64 (v : Nat)] [] (.int .u64 (v % 2 ^ m : Nat)) [] := by
  refine FSpec.of_W fCut3_low (by simp) ?_
  simp only [initEnv]
  rcases hm with rfl | rfl
  · have e : (v : Int).tmod 4294967296 = ((v % 4294967296 : Nat) : Int) := rfl
    simp [frm, e]
    exact fin_W (by simp)
  · rw [Nat.mod_eq_of_lt hv]
    simp [frm]
    exact fin_W (by simp)
theorem fTurn3_spec (hm : OkM m) (x : BitVec m) (n : Nat) (h1 : 0 < n) (h2 : n < m) : FSpec Try.prog 131 [.agg (frm F), .int .u64 (wn x : Nat), .int .i64 (n : Nat)] [] (.int .u64 (wn (x.rotateRight n) : Nat)) [] := by
  have hm64 : m ≤ 64 := by rcases hm with h | h <;> omega
  have e1 : ((wn x : Nat) : Int).fdiv (2 ^ min n 64) = ((wn x / 2 ^ n : Nat) : Int) := by rw [show min n 64 = n by omega]; exact shr_nat _ _
  obtain ⟨s, hs⟩ : ∃ s, s = m - n := ⟨_, rfl⟩
  have e2 : IntKind.i64.wrap ((m : Int) - (n : Int)) = (s : Int) := by rw [wrap64s (by omega) (by omega)]; omega
  have e3 : IntKind.u64.wrap (((wn x : Nat) : Int) * 2 ^ min s 64) = ((wn x * 2 ^ s % 2 ^ 64 : Nat) : Int) := by
    rw [show min s 64 = s by omega, show ((wn x : Nat) : Int) * 2 ^ s = ((wn x * 2 ^ s : Nat) : Int) by simp, wrapu64]
  have hx := wn_lt x
  have hp : 2 ^ m ≤ 2 ^ 64 := Nat.pow_le_pow_right (by decide) hm64
  have l1 : wn x / 2 ^ n < 2 ^ 64 := Nat.lt_of_le_of_lt (Nat.div_le_self _ _) (by omega)
  have l2 : wn x * 2 ^ s % 2 ^ 64 < 2 ^ 64 := Nat.mod_lt _ (by decide)
  have e4 := bitI_or (k := .u64) rfl l1 l2
  have hc := fCut3_spec F hm _ (Nat.or_lt_two_pow l1 l2)
  rw [hs, turn_val hm64 x n h2] at hc
  rw [← hs] at hc
  obtain ⟨a, ha⟩ : ∃ a, a = wn x / 2 ^ n := ⟨_, rfl⟩
  obtain ⟨b, hb⟩ : ∃ b, b = wn x * 2 ^ s % 2 ^ 64 := ⟨_, rfl⟩
  rw [← ha, ← hb] at e4 hc
  rw [← ha] at e1
  rw [← hb] at e3
  refine FSpec.of_W fTurn3_low (by simp) ?_
  simp only [initEnv]
  simp [frm, e1, e2, e3, e4, IntKind.bits]
  refine WO_callP (as' := [.agg (frm F), .int .u64 ((a ||| b : Nat) : Int)]) [] rfl (by simp [frm]) hc (by simp [frm]) (by simp) ?_
  simp
  exact fin_W (by simp)
def tV (t : Nat × Nat × Nat) : AV := .agg (tL t)
theorem xorm (hm : m ≤ 64) (x y : BitVec m) : bitI .xor .u64 (wn x : Nat) (wn y : Nat) = (wn (x ^^^ y) : Nat) := wx_xor rfl hm x y
theorem fBig3_spec (hm : OkM m) (x : BitVec m) (t : Nat × Nat × Nat) (h1 : 0 < t.1 ∧ t.1 < m) (h2 : 0 < t.2.1 ∧ t.2.1 < m) (h3 : 0 < t.2.2 ∧ t.2.2 < m) : FSpec Try.prog 107 [.agg (frm F), .int .u64 (wn x : Nat), tV t] [] (.int .u64 (wn (bigT t x) : Nat)) [] := by
  have hm64 : m ≤ 64 := by rcases hm with h | h <;> omega
  have hx := xorm hm64
  refine FSpec.of_W fBig3_low (by simp) ?_
  simp only [initEnv]
  simp [frm, tV, tL]
  refine WO_callP (as' := [.agg (frm F), .int .u64 (wn x : Nat), .int .i64 (t.1 : Nat)]) [] rfl (by simp [frm]) (fTurn3_spec F hm x t.1 h1.1 h1.2) (by simp [frm]) (by simp) ?_
  simp
  refine WO_callP (as' := [.agg (frm F), .int .u64 (wn x : Nat), .int .i64 (t.2.1 : Nat)]) [] rfl (by simp [frm]) (fTurn3_spec F hm x t.2.1 h2.1 h2.2) (by simp [frm]) (by simp) ?_
  simp [hx]
  refine WO_callP (as' := [.agg (frm F), .int .u64 (wn x : Nat), .int .i64 (t.2.2 : Nat)]) [] rfl (by simp [frm]) (fTurn3_spec F hm x t.2.2 h3.1 h3.2) (by simp [frm]) (by simp) ?_
  simp [hx]
  exact fin_W (by simp [bigT])
theorem fSmall3_spec (hm : OkM m) (x : BitVec m) (t : Nat × Nat × Nat) (h1 : 0 < t.1 ∧ t.1 < m) (h2 : 0 < t.2.1 ∧ t.2.1 < m) (h3 : t.2.2 < m) : FSpec Try.prog 105 [.agg (frm F), .int .u64 (wn x : Nat), tV t] [] (.int .u64 (wn (smallT t x) : Nat)) [] := by
  have hm64 : m ≤ 64 := by rcases hm with h | h <;> omega
  have hx := xorm hm64
  have e1 : ((wn x : Nat) : Int).fdiv (2 ^ min t.2.2 64) = (wn (x >>> t.2.2) : Nat) := by rw [show min t.2.2 64 = t.2.2 by omega]; exact wx_shr x _
  refine FSpec.of_W fSmall3_low (by simp) ?_
  simp only [initEnv]
  simp [frm, tV, tL, e1, IntKind.bits]
  refine WO_callP (as' := [.agg (frm F), .int .u64 (wn x : Nat), .int .i64 (t.1 : Nat)]) [] rfl (by simp [frm]) (fTurn3_spec F hm x t.1 h1.1 h1.2) (by simp [frm]) (by simp) ?_
  simp
  refine WO_callP (as' := [.agg (frm F), .int .u64 (wn x : Nat), .int .i64 (t.2.1 : Nat)]) [] rfl (by simp [frm]) (fTurn3_spec F hm x t.2.1 h2.1 h2.2) (by simp [frm]) (by simp) ?_
  simp [hx]
  exact fin_W (by simp [smallT])
theorem fConst3_spec (hm : OkM m) (v : Nat) : FSpec Try.prog 102 [.agg (frm F), .int .u64 (v : Nat)] [] (.int .u64 (v / 2 ^ (64 - m) : Nat)) [] := by
  obtain ⟨s, hs⟩ : ∃ s, s = 64 - m := ⟨_, rfl⟩
  have e2 : IntKind.i64.wrap (64 - (m : Int)) = (s : Int) := by rcases hm with h | h <;> (rw [wrap64s (by omega) (by omega)]; omega)
  have e1 : ((v : Nat) : Int).fdiv (2 ^ min s 64) = ((v / 2 ^ s : Nat) : Int) := by rw [show min s 64 = s by omega]; exact shr_nat _ _
  refine FSpec.of_W fConst3_low (by simp) ?_
  simp only [initEnv]
  rw [← hs]
  obtain ⟨w, hw⟩ : ∃ w, w = v / 2 ^ s := ⟨_, rfl⟩
  rw [← hw] at e1 ⊢
  simp [frm, e1, e2, IntKind.bits]
  exact fin_W (by simp)
end
end Go.Proofs.Ythgibibeoapfbaa
