/-
  Records: parsed.
-/
import Derived.Test.YtjehncilahjmdaadC2
set_option linter.unusedSimpArgs false
set_option linter.unnecessarySimpa false
set_option linter.unusedVariables false
set_option linter.unusedSectionVars false
namespace Go.Proofs.Ytjehncilahjmdaa
open Go Go.Fw
attribute [local simp] bv cleanL_bv toBytes_bv ltL_bv atF_drop WS_at_bytes W_nil W_skip W_seq W_reg W_draw W_drawP W_kill W_keep W_block W_blk W_exit W_ret WX_blk WX_c WX_lp WX_li W_li W_condT W_condF W_cond WC_true WC_false
  WR_nil WR_cons WR_o1 WR_o2 o1_chk o2_chk WR_grd WG_tt WG_ff WG_tf WG_ft WG_none WS_some WS_ok1 WSr_no WSr_some WSr_ok1 WSr_at_bytes WH_some WHA_some chkF_cons chkF_nil chkE_some chkE_ok1 chkE_at evF WO_mv WO_pick WO_bin WO_isNil WO_eqA WO_un WO_convI WO_toStr WO_ofStr WO_build WO_buildF WO_load WO_nilCheck WO_fieldAddr WO_field WO_idxA WO_idxS
  WO_ixA WO_slS WO_slA WO_len WO_lenK WO_appF WO_extract WO_s2a WO_iface WO_min WO_max WO_alloc WO_box WO_buildO WO_store WO_appO WO_copy WO_makeS WO_allocA WO_makeA WO_cvt cvtF_slice WO_look lookF_map alAF mkAF WO_func bind1_v bind2_v bindH_v bindH2_v bindS_v okO_v pickO_t pickO_f
  Env.keep Env.get Env.set Env.del Env.dels Env.setO Env.opd Env.opds Env.opdO Env.parts intF aggF fillA splice cleanL AV.clean bndF fldF_one fldF_many toStrF boxF buildOF
  loadF_rptr loadF_rptrN atF_zero atF_succ blk_cons_zero blk_cons_succ loadF_p loadF_pN atB_some atBN_some retPost resL one
  okc_bool cells_bool notStr_bool okc_int cells_int notStr_int okc_str cells_str notStr_str okc_nil cells_nil notStr_nil okc_ptr cells_ptr notStr_ptr okc_rptr cells_rptr notStr_rptr okc_slice cells_slice notStr_slice 
  okc_list cells_list notStr_list okc_func cells_func notStr_func okc_nilFunc cells_nilFunc notStr_nilFunc okc_iface cells_iface notStr_iface okc_nilIface cells_nilIface notStr_nilIface okc_agg cells_agg notStr_agg 
  okc_tuple cells_tuple notStr_tuple lenF_slice lenF_list lenF_str faF_ptr faF_rptr idxSF_slice idxSF_list idxAF_ptr idxAF_rptr ixAF_many ixAF_one convF_int unF_neg unF_xor unF_not nilF_0nil nilF_0ptr nilF_0rptr nilF_1 
  nilF_2nil nilF_2f nilF_3nil nilF_3f binF_int binF_beq binF_bne binF_sadd binF_seq binF_sne sliceCells_list sliceCells_str sliceCells_slice cutC_some szAV_list szAV_str szAV_slice oneSl_list oneSl_slice slSF_sliceS 
  slSF_sliceN slSF_list slAF_rptr slAF_ptr appFF_list appOF_list appOF_sliceN appOF_sliceS storeF_ptr copyF_slice extF_tuple s2aF_slice s2aF_list nchkF_ptr nchkF_rptr nchkF_f mmF_int ofStrF_str mkSF_int eqAF_agg
attribute [local irreducible] W WX WR WO WS WSr WH WHA WG WC FSpec
attribute [local simp] lendAll
attribute [local congr] W_cg WR_cg WO_cg WS_cg WSr_cg WH_cg WHA_cg WG_cg WC_cg WX_cg
attribute [local simp] Env.has AV.wkr wkrL AV.wkr_refl wkrL_refl AV.ltI ltL leHW hasW Env.lt AV.ids idsL AV.sub subL AV.ren AV.frz frzS frzP frzE frzL Heap.frz Blk.frz Blk.ren renL rnS rnP hasR leR idsL_bv subL_bv
attribute [local simp] cleanL_take cleanL_drop ltL_take ltL_drop idsL_take idsL_drop subL_take subL_drop cleanL_append ltL_append idsL_append subL_append
attribute [local simp] renE mvN mvH
attribute [local simp] fwd backH putL bwd
attribute [local simp] u8i u8e List.idxOf_cons
attribute [local simp] hasRW leRW
attribute [local simp] WS_at_map WSr_at_map loadWP splice_full Int.natCast_inj
/-- What parsing tells. -/
def recPR (x : Rec × Int) : AV := .tuple [.agg (recP x.1 ⟨false, false, false⟩), .int .i64 x.2]
set_option maxRecDepth 100000 in
set_option maxHeartbeats 1000000 in
theorem fRecParse_spec (b : List UInt8) (md : Md) (hb : b.length < 2 ^ 40) : FSpec Try.prog 85 [.list 1 md (b.map bv)] [] (recPR (parseR b)) [] := by
  have g0 : b.length = 160 → FSpec Try.prog 91 [.list 1 md (b.map bv), .int .i64 0] [] (.int .u32 (at4 b 0 : Nat)) [] := fun h => fRecGet_spec b md 0 (by omega) hb
  have gk : ∀ k, k + 4 ≤ 160 → b.length = 160 → FSpec Try.prog 91 [.list 1 md (b.map bv), .int .i64 (k : Nat)] [] (.int .u32 (at4 b k : Nat)) [] := fun k hk h => fRecGet_spec b md k (by omega) hb
  have hE := fun nl => fRecEncode_spec (recOf b) (recOf_ok b) ⟨nl, false, false⟩ rfl
  obtain ⟨R, hR⟩ : ∃ R, R = parseR b := ⟨_, rfl⟩
  rw [← hR]
  unfold parseR at hR
  obtain ⟨s, hs⟩ : ∃ s, s = recSum (b.take 156) := ⟨_, rfl⟩
  obtain ⟨x, hx⟩ : ∃ x, x = b.getD 21 0 := ⟨_, rfl⟩
  obtain ⟨y, hy⟩ : ∃ y, y = b.getD 20 0 := ⟨_, rfl⟩
  rw [← hs, ← hx] at hR
  have z0 : recPR (rec0, 7) = .tuple [.agg (recP rec0 ⟨false, false, false⟩), .int .i64 7] := rfl
  have z1 : recPR (rec0, 8) = .tuple [.agg (recP rec0 ⟨false, false, false⟩), .int .i64 8] := rfl
  by_cases hl : ¬ b.length = 160
  · rw [if_pos (fun h => hl h.1)] at hR
    rw [hR]
    refine FSpec.of_W fRecParse_low (by simp) ?_
    simp only [initEnv]
    have hl' : ¬ (b.length : Int) = 160 := by omega
    simp [hl, hl']
    exact fin_W (by simp [recPR, recP, rec0])
  simp only [Classical.not_not] at hl
  have hl' : (b.length : Int) = 160 := by omega
  by_cases hmk : ¬ at4 b 0 = markN
  · rw [if_pos (fun h => hmk h.2)] at hR
    rw [hR]
    refine FSpec.of_W fRecParse_low (by simp) ?_
    simp only [initEnv]
    have hmk' : ¬ (at4 b 0 : Int) = 827216706 := by unfold markN at hmk; omega
    simp [hl', hl]
    refine WO_callP [] rfl rfl (g0 hl) (by simp) (by simp) ?_
    simp [hmk']
    exact fin_W (by simp [recPR, recP, rec0])
  simp only [Classical.not_not] at hmk
  have hmk' : (at4 b 0 : Int) = 827216706 := by rw [hmk]; rfl
  rw [if_neg (fun h => h ⟨hl, hmk⟩)] at hR
  have hS := fRecSum_spec (b.take 156) ⟨md.nl, false, md.bw⟩ (by simp; omega)
  have g156 := gk 156 (by omega) hl
  have hx21 : b[21]? = some x := by rw [hx, List.getD_eq_getElem?_getD, List.getElem?_eq_getElem (by omega)]; rfl
  have hx20 : b[20]? = some y := by rw [hy, List.getD_eq_getElem?_getD, List.getElem?_eq_getElem (by omega)]; rfl
  rw [← hs, List.map_take] at hS
  have hro : recOf b = ⟨at4 b 4, at4 b 8, at4 b 12, at4 b 16, y, at4 b 24, (b.drop 28).take x.toNat⟩ := by rw [hx, hy]; rfl
  have g4 := gk 4 (by omega) hl
  have g8 := gk 8 (by omega) hl
  have g12 := gk 12 (by omega) hl
  have g16 := gk 16 (by omega) hl
  have g24 := gk 24 (by omega) hl
  rw [hro] at hE hR
  have hg21 : b[21]'(by omega) = x := by rw [List.getElem?_eq_getElem (by omega)] at hx21; exact Option.some.inj hx21
  have hg20 : b[20]'(by omega) = y := by rw [List.getElem?_eq_getElem (by omega)] at hx20; exact Option.some.inj hx20
  clear hro gk hmk hs hx hy
  generalize at4 b 0 = v0 at *
  generalize at4 b 4 = v4 at *
  generalize at4 b 8 = v8 at *
  generalize at4 b 12 = v12 at *
  generalize at4 b 16 = v16 at *
  generalize at4 b 24 = v24 at *
  generalize at4 b 156 = v156 at *
  refine FSpec.of_W fRecParse_low (by simp) ?_
  simp only [initEnv]
  simp [hl', hl]
  refine WO_callP [] rfl rfl (g0 hl) (by simp) (by simp) ?_
  simp [hmk', hl]
  refine WO_callP [] rfl rfl hS (by simp) (by simp) ?_
  simp
  refine WO_callP [] rfl rfl g156 (by simp) (by simp) ?_
  simp
  refine WC_ndec (fun hsm => ?_) (fun hsm => ?_)
  · rw [if_pos (by omega)] at hR
    rw [hR]
    simp
    exact fin_W (by simp [recPR, recP, rec0])
  rw [if_neg (by omega)] at hR
  have hx8 := x.toNat_lt
  have e1 : IntKind.i64.wrap (x.toNat : Int) = (x.toNat : Nat) := wrap64 (by omega) (by omega)
  simp [hx21, e1]
  refine ⟨by omega, ?_⟩
  refine WC_dec (fun h128 => ?_) (fun h128 => ?_)
  · rw [if_pos (by omega)] at hR
    rw [hR]
    simp
    exact fin_W (by simp [recPR, recP, rec0])
  rw [if_neg (by omega)] at hR
  simp
  refine WO_callQ rfl g4 (by simp) ?_
  simp
  refine WO_callQ rfl g8 (by simp) ?_
  simp
  refine WO_callQ rfl g12 (by simp) ?_
  simp
  refine WO_callQ rfl g16 (by simp) ?_
  simp [hg20, hx20, hl]
  refine WO_callQ rfl g24 (by simp) ?_
  have e2 : IntKind.i64.wrap (28 + (x.toNat : Int)) = ((28 + x.toNat : Nat) : Int) := by rw [show 28 + (x.toNat : Int) = ((28 + x.toNat : Nat) : Int) by omega]; exact wrap64 (by omega) (by omega)
  have e3 : (28 + (x.toNat : Int)).toNat = 28 + x.toNat := by omega
  rw [Int.natCast_add] at e2
  simp only [Int.cast_ofNat_Int] at e2
  simp [hg21, hg20, e1, e2, e3, hl]
  refine ⟨⟨by omega, by omega⟩, ⟨by omega, by omega⟩, ?_⟩
  generalize (List.take x.toNat (List.drop 28 (List.map bv b))).isEmpty = nl
  have hE1 := hE nl
  simp only [recP, List.map_take, List.map_drop] at hE1
  obtain ⟨E, hEe⟩ : ∃ E, E = encF ⟨v4, v8, v12, v16, y, v24, (b.drop 28).take x.toNat⟩ := ⟨_, rfl⟩
  rw [← hEe] at hE1 hR
  obtain ⟨c, e⟩ := E
  clear hEe hE
  refine WO_callP [] rfl rfl hE1 (by simp) (by simp) ?_
  simp
  by_cases he : e = 0
  · by_cases hc : c = b
    · rw [if_pos (by rw [he, hc])] at hR
      rw [hR]
      simp [he, hc]
      exact fin_W (by simp [recPR, recP, List.map_take, List.map_drop])
    · rw [if_neg (fun q => hc (by injection q))] at hR
      rw [hR]
      simp [he, hc]
      exact fin_W (by simp [recPR, recP, rec0])
  · rw [if_neg (fun q => he (by injection q))] at hR
    rw [hR]
    simp [he]
    exact fin_W (by simp [recPR, recP, rec0])
def Rec.same (a b : Rec) : Bool := decide (a = b)
end Go.Proofs.Ytjehncilahjmdaa
