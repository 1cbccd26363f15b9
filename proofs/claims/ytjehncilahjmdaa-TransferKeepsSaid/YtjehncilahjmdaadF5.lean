/-
  Flash: erased.
-/
import Derived.Test.YtjehncilahjmdaadC4
set_option linter.unusedSimpArgs false
set_option linter.unnecessarySimpa false
set_option linter.unusedVariables false
set_option linter.unusedSectionVars false
namespace Go.Proofs.Ytjehncilahjmdaa
open Go Go.Fw
attribute [local simp] bv cleanL_bv toBytes_bv ltL_bv atF_drop WS_at_bytes W_nil W_skip W_seq W_reg W_draw W_drawP W_kill W_keep W_block W_blk W_exit W_ret WX_blk WX_c WX_lp WX_li W_li W_condT W_condF W_cond WC_true WC_false
  WR_nil WR_cons WR_o1 WR_o2 o1_chk o2_chk WR_grd WG_tt WG_ff WG_tf WG_ft WG_none WS_some WS_ok1 WSr_no WSr_some WSr_ok1 WSr_at_bytes WH_some WHA_some chkF_cons chkF_nil chkE_some chkE_ok1 chkE_at evF WO_mv WO_pick WO_bin WO_isNil WO_eqA WO_un WO_convI WO_toStr WO_ofStr WO_build WO_buildF WO_load WO_nilCheck WO_fieldAddr WO_field WO_idxA WO_idxS
  WO_ixA WO_slS WO_slA WO_len WO_lenK WO_appF WO_extract WO_s2a WO_iface WO_min WO_max WO_alloc WO_box WO_buildO WO_store WO_appO WO_copy WO_makeS WO_allocA WO_makeA WO_cvt cvtF_slice WO_look lookF_map alAF mkAF WO_func bind1_v bind2_v bindH_v bindH2_v bindS_v okO_v pickO_t pickO_f
  Env.keep Env.get Env.set Env.del Env.dels Env.setO Env.opd Env.opds Env.opdO Env.parts intF aggF fillA splice cleanL AV.clean bndF fldF_one fldF_many toStrF boxF buildOF
  loadF_rptr loadF_rptrN atF_zero atF_succ blk_cons_zero blk_cons_succ loadF_p loadF_pN atB_some atBN_some retPost resL one
  okc_bool cells_bool notStr_bool okc_int cells_int notStr_int okc_str cells_str notStr_str okc_nil cells_nil notStr_nil okc_ptr cells_ptr notStr_ptr okc_rptr cells_rptr notStr_rptr okc_slice cells_slice notStr_slice 
  okc_list cells_list notStr_list okc_func cells_func notStr_func okc_nilFunc cells_nilFunc notStr_nilFunc okc_iface cells_iface notStr_iface okc_nilIface cells_nilIface notStr_nilIface okc_agg cells_agg notStr_agg 
  okc_tuple cells_tuple notStr_tuple lenF_slice lenF_list lenF_str faF_ptr faF_rptr idxSF_slice idxSF_list idxAF_ptr idxAF_rptr ixAF_many ixAF_one convF_int unF_neg unF_xor unF_not nilF_0nil nilF_0ptr nilF_0rptr nilF_1 
  nilF_2nil nilF_2f nilF_3nil nilF_3f binF_int binF_beq binF_bne binF_sadd binF_seq binF_sne sliceCells_list sliceCells_str sliceCells_slice cutC_some szAV_list szAV_str szAV_slice oneSl_list oneSl_slice slSF_sliceS 
  slSF_sliceN slSF_list slAF_rptr slAF_ptr appFF_list appOF_list appOF_sliceN appOF_sliceS storeF_ptr copyF_slice extF_tuple s2aF_slice s2aF_list nchkF_ptr nchkF_rptr nchkF_f mmF_int ofStrF_str mkSF_int eqAF_agg
attribute [local irreducible] W WX WR WO WS WSr WH WHA WG WC FSpec
attribute [local simp] lendAll
attribute [local congr] W_cg WR_cg WO_cg WS_cg WSr_cg WH_cg WHA_cg WG_cg WC_cg WX_cg
attribute [local simp] Env.has AV.wkr wkrL AV.wkr_refl wkrL_refl AV.ltI ltL leHW hasW Env.lt AV.ids idsL AV.sub subL AV.ren AV.frz frzS frzP frzE frzL Heap.frz Blk.frz Blk.ren renL rnS rnP hasR leR idsL_bv subL_bv
attribute [local simp] cleanL_take cleanL_drop ltL_take ltL_drop idsL_take idsL_drop subL_take subL_drop cleanL_append ltL_append idsL_append subL_append
attribute [local simp] renE mvN mvH
attribute [local simp] fwd backH putL bwd
attribute [local simp] u8i u8e List.idxOf_cons
attribute [local simp] hasRW leRW
attribute [local simp] WS_at_map WSr_at_map loadWP splice_full Int.natCast_inj
set_option maxRecDepth 100000 in
theorem fFlErase_spec (f : Fl) (hf : f.Ok) (page : Int) (hpg : -2 ^ 62 ≤ page ∧ page < 2 ^ 62) : FSpec Try.prog 19 [.ptr 0 0, .int .i64 page] (flP f) (.int .i64 (eraseF f page).1) (flP (eraseF f page).2) := by
  obtain ⟨b, lo, hi, ops, armed, left, tear, off, worn⟩ := f
  have hl : b.length = 256 * worn.length := hf.len
  have hp : worn.length ≤ 64 := hf.pages
  have ht : tear < 2 ^ 32 := hf.tear
  obtain ⟨R, hR⟩ : ∃ R, R = eraseF ⟨b, lo, hi, ops, armed, left, tear, off, worn⟩ page := ⟨_, rfl⟩
  rw [← hR]
  unfold eraseF at hR
  simp only at hR
  have hH : flP ⟨b, lo, hi, ops, armed, left, tear, off, worn⟩ = [some ⟨[.slice 1 1 0 b.length none, .int .i64 lo, .int .i64 hi, .int .i64 ops, .bool armed, .int .i64 left, .int .u32 (tear : Nat), .bool off, .slice 1 2 0 worn.length none], 95, true⟩, some ⟨b.map bv, 5, false⟩, some ⟨worn.map iv, 3, false⟩] := rfl
  have hLk := fFlLocked_spec ⟨b, lo, hi, ops, armed, left, tear, off, worn⟩ page
  simp only at hLk
  have hst := fFlStep_spec ⟨b, lo, hi, ops, armed, left, tear, off, worn⟩ hf
  have hsb := stepF_b ⟨b, lo, hi, ops, armed, left, tear, off, worn⟩
  simp only at hsb
  refine FSpec.of_W fFlErase_low (by simp) ?_
  simp only [initEnv]
  cases off
  rotate_left
  · rw [if_pos rfl] at hR
    rw [hR]
    simp [hH]
    exact fin_W (by simp [flP])
  rw [if_neg (by simp)] at hR
  by_cases c1 : page < 0
  · rw [if_pos (.inl c1)] at hR
    rw [hR]
    simp [hH, c1]
    exact fin_W (by simp [flP])
  by_cases c2 : (worn.length : Int) ≤ page
  · rw [if_pos (.inr c2)] at hR
    rw [hR]
    simp [hH, c1, c2]
    exact fin_W (by simp [flP])
  rw [if_neg (by omega)] at hR
  by_cases c3 : lo ≤ page ∧ page < hi
  · rw [if_pos c3] at hR
    rw [decide_eq_true c3] at hLk
    rw [hR]
    simp [hH, c1, c2]
    refine WO_call rfl hLk (by simp) ?_
    simp [hH]
    exact fin_W (by simp [flP])
  rw [if_neg c3] at hR
  rw [decide_eq_false c3] at hLk
  obtain ⟨k, rfl⟩ : ∃ k : Nat, page = k := ⟨page.toNat, by omega⟩
  rw [Int.toNat_natCast] at hR
  have e1 : IntKind.i64.wrap ((k : Int) * 256) = (k : Int) * 256 := wrap64s (by omega) (by omega)
  have e2 : IntKind.i64.wrap ((k : Int) + 1) = (k : Int) + 1 := wrap64s (by omega) (by omega)
  have e3 : IntKind.i64.wrap (((k : Int) + 1) * 256) = ((k : Int) + 1) * 256 := wrap64s (by omega) (by omega)
  have e4 : ((k : Int) * 256).toNat = 256 * k := by omega
  have e5 : (((k : Int) + 1) * 256).toNat = 256 * k + 256 := by omega
  obtain ⟨w, g, hwg⟩ : ∃ w g, stepF ⟨b, lo, hi, ops, armed, left, tear, false, worn⟩ = (w, g) := ⟨_, _, rfl⟩
  rw [hwg] at hst hsb hR
  simp only at hst hsb hR
  simp [hH, c1, c2]
  refine WO_call rfl hLk (by simp) ?_
  simp [hH, e1, e2, e3, e4, e5]
  refine ⟨by omega, ?_⟩
  refine WO_call rfl hst (by simp) ?_
  obtain ⟨s1, s2, s3, s4, s5⟩ := hsb
  obtain ⟨b', lo', hi', ops', armed', left', tear', off', worn'⟩ := g
  simp only at s1 s2 s3 s4 s5
  subst s1 s2 s3 s4 s5
  simp only at hR
  simp [flP]
  obtain ⟨P, hP⟩ : ∃ P, P = (b'.drop (256 * k)).take 256 := ⟨_, rfl⟩
  have hPl : P.length = 256 := by rw [hP, List.length_take, List.length_drop]; omega
  rw [← hP] at hR
  have hT0 : ovw b' (256 * k) P = b' := by rw [hP]; exact ovw_self (by omega)
  have hTl : ∀ i, i ≤ 256 → (pageT w tear' P i).length = 256 := fun i hi => by rw [pageT_len _ _ _ _ (by omega), hPl]
  refine W_loop (X := { i : Nat // i ≤ 256 }) (fun i => [(0, .ptr 0 0), (1, .int .i64 k), (5, .slice 1 1 (256 * k) 256 none), (6, .bool w), (45, .int .i64 256), (46, .int .i64 i.1)])
    (fun i => [some ⟨[.slice 1 1 0 b'.length none, .int .i64 lo', .int .i64 hi', .int .i64 ops', .bool armed', .int .i64 left', .int .u32 (tear' : Nat), .bool off', .slice 1 2 0 worn'.length none], 95, true⟩, some ⟨(ovw b' (256 * k) (pageT w tear' P i.1)).map bv, 5, false⟩, some ⟨worn'.map iv, 3, false⟩]) (fun i => 256 - i.1) ⟨0, by omega⟩ retPost_le ?_ ?_
  · refine cut_w ?_
    simp [pageT_zero, hT0]
  · rintro ⟨i, hi⟩
    simp only
    simp
    refine WC_dec (fun hlt => ?_) (fun hlt => ?_)
    · have w1 : IntKind.i64.wrap ((i : Int) + 1) = (i : Int) + 1 := wrap64s (by omega) (by omega)
      have hsucc := pageT_succ w tear' P i (by omega)
      have hti := hTl i (by omega)
      have hol : (ovw b' (256 * k) (pageT w tear' P i)).length = b'.length := ovw_len (by omega)
      have hset : ((ovw b' (256 * k) (pageT w tear' P i)).map bv).set (256 * k + i) (.int .u8 255) = (ovw b' (256 * k) ((pageT w tear' P i).set i 255)).map bv := by
        rw [← ovw_set (by omega) (by omega), List.map_set]
        rfl
      cases w
      · simp only [Bool.false_eq_true, false_or] at hsucc
        obtain ⟨q, hq⟩ : ∃ q, q = i % 32 := ⟨_, rfl⟩
        have f1 : (i : Int).tmod 32 = (q : Nat) := by rw [hq]; rfl
        have f2 : (tear' : Int).fdiv (2 ^ min q 32) = (tear' / 2 ^ q : Nat) := by rw [show min q 32 = q by omega]; exact shr_nat _ _
        have f3 : bitI .and .u32 ((tear' / 2 ^ q : Nat) : Int) 1 = ((tear' / 2 ^ q % 2 : Nat) : Int) := and1_u32 (Nat.lt_of_le_of_lt (Nat.div_le_self _ _) ht)
        rw [← hq] at hsucc
        obtain ⟨v, hv⟩ : ∃ v, v = tear' / 2 ^ q := ⟨_, rfl⟩
        rw [← hv] at f2 f3 hsucc
        obtain ⟨u, hu⟩ : ∃ u, u = v % 2 := ⟨_, rfl⟩
        rw [← hu] at f3 hsucc
        simp [f1, f2, f3, IntKind.bits]
        refine WC_dec (fun hb => ?_) (fun hb => ?_)
        · rw [if_pos (by omega)] at hsucc
          simp [hset]
          repeat (refine ⟨by omega, ?_⟩)
          exact ⟨⟨i + 1, by omega⟩, by simp; omega, cut_w (by simp [w1, hsucc])⟩
        · rw [if_neg (by omega)] at hsucc
          simp
          exact ⟨⟨i + 1, by omega⟩, by simp; omega, cut_w (by simp [w1, hsucc])⟩
      · rw [if_pos (.inl rfl)] at hsucc
        simp [hset]
        repeat (refine ⟨by omega, ?_⟩)
        exact ⟨⟨i + 1, by omega⟩, by simp; omega, cut_w (by simp [w1, hsucc])⟩
    · have : i = 256 := by omega
      subst this
      have hall := pageT_all w tear' P
      rw [hPl] at hall
      have hol : (ovw b' (256 * k) (pageF w tear' P)).length = b'.length := ovw_len (by rw [pageF_len]; omega)
      rw [hall]
      cases w
      · rw [if_pos rfl] at hR
        rw [hR]
        simp
        exact fin_W (by simp [flP, hol])
      · rw [if_neg (by simp)] at hR
        have hwk : worn'[k]? = some (worn'[k]'(by omega)) := List.getElem?_eq_getElem (by omega)
        have hwd : worn'.getD k 0 = worn'[k]'(by omega) := by rw [List.getD_eq_getElem?_getD, hwk]; rfl
        rw [hwd] at hR
        obtain ⟨x, hx⟩ : ∃ x, x = worn'[k]'(by omega) := ⟨_, rfl⟩
        rw [← hx] at hR hwk
        simp [hwk, iv]
        rw [hR]
        refine ⟨by omega, by omega, fin_W ?_⟩
        have hse : (worn'.map iv).set k (.int .i64 (IntKind.i64.wrap (x + 1))) = (worn'.set k (IntKind.i64.wrap (x + 1))).map iv := by rw [List.map_set]; rfl
        have hlt : ltL 3 ((worn'.map iv).set k (.int .i64 (IntKind.i64.wrap (x + 1)))) = true := by rw [hse]; exact ltL_iv _ _
        simp [hol, ← hse, hlt]
end Go.Proofs.Ytjehncilahjmdaa
