/-
  An image that is received, kept in flash: start and put.
-/
import Derived.Test.YtjehncilahjmdaadD1
set_option linter.unusedSimpArgs false
set_option linter.unnecessarySimpa false
set_option linter.unusedVariables false
set_option linter.unusedSectionVars false
namespace Go.Proofs.Ytjehncilahjmdaa
open Go Go.Fw
attribute [local simp] bv cleanL_bv toBytes_bv ltL_bv atF_drop WS_at_bytes W_nil W_skip W_seq W_reg W_draw W_drawP W_kill W_keep W_block W_blk W_exit W_ret WX_blk WX_c WX_lp WX_li W_li W_condT W_condF W_cond WC_true WC_false
  WR_nil WR_cons WR_o1 WR_o2 o1_chk o2_chk WR_grd WG_tt WG_ff WG_tf WG_ft WG_none WS_some WS_ok1 WSr_no WSr_some WSr_ok1 WSr_at_bytes WH_some WHA_some chkF_cons chkF_nil chkE_some chkE_ok1 chkE_at evF WO_mv WO_pick WO_bin WO_isNil WO_eqA WO_un WO_convI WO_toStr WO_ofStr WO_build WO_buildF WO_load WO_nilCheck WO_fieldAddr WO_field WO_idxA WO_idxS
  WO_ixA WO_slS WO_slA WO_len WO_lenK WO_appF WO_extract WO_s2a WO_iface WO_min WO_max WO_alloc WO_box WO_buildO WO_store WO_appO WO_copy WO_makeS WO_allocA WO_makeA WO_cvt cvtF_slice WO_look lookF_map alAF mkAF WO_func bind1_v bind2_v bindH_v bindH2_v bindS_v okO_v pickO_t pickO_f
  Env.keep Env.get Env.set Env.del Env.dels Env.setO Env.opd Env.opds Env.opdO Env.parts intF aggF fillA splice cleanL AV.clean bndF fldF_one fldF_many toStrF boxF buildOF
  loadF_rptr loadF_rptrN atF_zero atF_succ blk_cons_zero blk_cons_succ loadF_p loadF_pN atB_some atBN_some retPost resL one
  okc_bool cells_bool notStr_bool okc_int cells_int notStr_int okc_str cells_str notStr_str okc_nil cells_nil notStr_nil okc_ptr cells_ptr notStr_ptr okc_rptr cells_rptr notStr_rptr okc_slice cells_slice notStr_slice 
  okc_list cells_list notStr_list okc_func cells_func notStr_func okc_nilFunc cells_nilFunc notStr_nilFunc okc_iface cells_iface notStr_iface okc_nilIface cells_nilIface notStr_nilIface okc_agg cells_agg notStr_agg 
  okc_tuple cells_tuple notStr_tuple lenF_slice lenF_list lenF_str faF_ptr faF_rptr idxSF_slice idxSF_list idxAF_ptr idxAF_rptr ixAF_many ixAF_one convF_int unF_neg unF_xor unF_not nilF_0nil nilF_0ptr nilF_0rptr nilF_1 
  nilF_2nil nilF_2f nilF_3nil nilF_3f binF_int binF_beq binF_bne binF_sadd binF_seq binF_sne sliceCells_list sliceCells_str sliceCells_slice cutC_some szAV_list szAV_str szAV_slice oneSl_list oneSl_slice slSF_sliceS 
  slSF_sliceN slSF_list slAF_rptr slAF_ptr appFF_list appOF_list appOF_sliceN appOF_sliceS storeF_ptr copyF_slice extF_tuple s2aF_slice s2aF_list nchkF_ptr nchkF_rptr nchkF_f mmF_int ofStrF_str mkSF_int eqAF_agg
attribute [local irreducible] W WX WR WO WS WSr WH WHA WG WC FSpec
attribute [local simp] lendAll
attribute [local congr] W_cg WR_cg WO_cg WS_cg WSr_cg WH_cg WHA_cg WG_cg WC_cg WX_cg
attribute [local simp] Env.has AV.wkr wkrL AV.wkr_refl wkrL_refl AV.ltI ltL leHW hasW Env.lt AV.ids idsL AV.sub subL AV.ren AV.frz frzS frzP frzE frzL Heap.frz Blk.frz Blk.ren renL rnS rnP hasR leR idsL_bv subL_bv
attribute [local simp] cleanL_take cleanL_drop ltL_take ltL_drop idsL_take idsL_drop subL_take subL_drop cleanL_append ltL_append idsL_append subL_append
attribute [local simp] renE mvN mvH
attribute [local simp] fwd backH putL bwd
attribute [local simp] u8i u8e List.idxOf_cons
attribute [local simp] hasRW leRW
attribute [local simp] WS_at_map WSr_at_map loadWP splice_full Int.natCast_inj
set_option maxRecDepth 100000 in
theorem fTrStart_spec (s : Fl × Rec) (hs : TOk s) (init : List UInt8) (md : Md) (hi : init.length < 2 ^ 40) : FSpec Try.prog 43 [.ptr 3 0, .list 1 md (init.map bv)] (kpP s) (.int .i64 (trStart s init).1) (kpP (trStart s init).2) := by
  obtain ⟨R, hR⟩ : ∃ R, R = trStart s init := ⟨_, rfl⟩
  rw [← hR]
  unfold trStart at hR
  simp only at hR
  have h1 := fTrSave_spec s hs 0 0 (by decide) [] ⟨true, true, false⟩ (by decide)
  have k1 := trSave_ok hs (phase := 0) (done := 0) (init := []) (by decide) (by decide)
  generalize trSave s 0 0 [] = x at *
  obtain ⟨e1, f1, r1⟩ := x
  simp only at hR k1
  have h2 := fBkClear_spec f1 k1.f 18 0 16
  have k2 := (bkClear_ok k1.f 18 0 16).1
  generalize bkClear f1 18 0 16 = y at *
  obtain ⟨e2, f2⟩ := y
  simp only at hR k2 h2
  have k3 : TOk (f2, r1) := ⟨k2, k1.r⟩
  have h3 := fTrSave_spec (f2, r1) k3 1 0 (by decide) init md hi
  generalize trSave (f2, r1) 1 0 init = z at *
  obtain ⟨e3, f3, r3⟩ := z
  simp only [bkP] at h2
  simp [kpP, bv, recP] at h1 h3
  refine FSpec.of_W fTrStart_low (by simp) ?_
  simp only [initEnv]
  simp
  simp only [kpP, recP, flP, List.cons_append, List.nil_append]
  refine WO_callF [0, 1, 2, 3] rfl rfl h1 (by simp [flP]) (by simp [flP]) (by simp) ?_
  simp [flP]
  by_cases c1 : e1 = 0
  rotate_left
  · rw [if_pos c1] at hR
    rw [hR]
    simp [c1]
    exact fin_W (by simp [flP])
  rw [if_neg (fun z => z c1)] at hR
  simp [c1]
  refine WO_callF [0, 1, 2] rfl rfl h2 (by simp [flP]) (by simp [flP]) (by simp) ?_
  simp [flP]
  by_cases c2 : e2 = 0
  rotate_left
  · rw [if_pos c2] at hR
    rw [hR]
    simp [c2]
    exact fin_W (by simp [flP])
  rw [if_neg (fun z => z c2)] at hR
  rw [hR]
  simp [c2]
  refine WO_callF [0, 1, 2, 3] rfl (by simp [bv]) h3 (by simp [flP]) (by simp [flP]) (by simp) ?_
  simp [flP]
  exact fin_W (by simp [flP])
set_option maxRecDepth 100000 in
theorem fTrPut_spec (s : Fl × Rec) (hs : TOk s) (b : List UInt8) (md : Md) (hb : b.length < 2 ^ 40) : FSpec Try.prog 42 [.ptr 3 0, .list 1 md (b.map bv)] (kpP s) (.int .i64 (trPut s b).1) (kpP (trPut s b).2) := by
  obtain ⟨R, hR⟩ : ∃ R, R = trPut s b := ⟨_, rfl⟩
  rw [← hR]
  unfold trPut at hR
  obtain ⟨f, r⟩ := s
  simp only at hR
  have hd := hs.r.done
  have hri := hs.r.init
  simp only at hd hri
  have e1 : IntKind.i64.wrap (r.done : Int) = (r.done : Int) := wrap64s (by omega) (by omega)
  obtain ⟨q, hq⟩ : ∃ q, q = r.done % 256 := ⟨_, rfl⟩
  have e2 : (r.done : Int).tmod 256 = (q : Nat) := by rw [hq]; rfl
  have e3 : IntKind.i64.wrap (4096 - (r.done : Int)) = 4096 - (r.done : Int) := wrap64s (by omega) (by omega)
  rw [← hq] at hR
  refine FSpec.of_W fTrPut_low (by simp) ?_
  simp only [initEnv, kpP, flP, recP, List.cons_append, List.nil_append]
  simp [e1]
  by_cases c1 : r.phase = 1
  rotate_left
  · rw [if_pos c1] at hR
    rw [hR]
    have c1' : ¬ (r.phase.toNat : Int) = 1 := fun q => c1 (UInt8.toNat_inj.1 (by simp; omega))
    simp [c1, c1']
    exact fin_W (by simp [flP])
  rw [if_neg (fun z => z c1)] at hR
  simp [c1, e2, e3]
  by_cases c2 : q = 0
  rotate_left
  · rw [if_pos (.inl c2)] at hR
    rw [hR]
    simp [c2]
    exact fin_W (by simp [flP, c1])
  by_cases c3 : (4096 : Int) - r.done < b.length
  · rw [if_pos (.inr c3)] at hR
    rw [hR]
    simp [c2, c3, e3]
    exact fin_W (by simp [flP, c1])
  rw [if_neg (fun z => z.elim (fun y => y c2) c3)] at hR
  obtain ⟨u, hu⟩ : ∃ u, u = r.done / 256 := ⟨_, rfl⟩
  obtain ⟨v, hv⟩ : ∃ v, v = (r.done + b.length + 255) / 256 := ⟨_, rfl⟩
  rw [← hu, ← hv] at hR
  have e4 : (r.done : Int).tdiv 256 = (u : Nat) := by rw [hu]; rfl
  have e4' : (r.done : Int) / 256 = (u : Nat) := by rw [hu]; rfl
  have e5 : IntKind.i64.wrap (u : Nat) = (u : Int) := wrap64 (by omega) (by omega)
  have e6 : IntKind.i64.wrap ((r.done : Int) + (b.length : Int)) = (r.done : Int) + (b.length : Int) := wrap64s (by omega) (by omega)
  have e7 : IntKind.i64.wrap ((r.done : Int) + (b.length : Int) + 256) = (r.done : Int) + (b.length : Int) + 256 := wrap64s (by omega) (by omega)
  have e8 : IntKind.i64.wrap ((r.done : Int) + (b.length : Int) + 256 - 1) = ((r.done + b.length + 255 : Nat) : Int) := by rw [show (r.done : Int) + (b.length : Int) + 256 - 1 = ((r.done + b.length + 255 : Nat) : Int) by omega]; exact wrap64 (by omega) (by omega)
  have e9 : ((r.done + b.length + 255 : Nat) : Int).tdiv 256 = (v : Nat) := by rw [hv]; rfl
  have e9' : ((r.done : Int) + (b.length : Int) + 255) / 256 = (v : Nat) := by rw [hv]; omega
  have e10 : IntKind.i64.wrap (v : Nat) = (v : Int) := wrap64 (by omega) (by omega)
  push_cast at e8 e9
  have h2 := fBkClear_spec f hs.f 18 (u : Nat) (v : Nat)
  have k2 := (bkClear_ok hs.f 18 (u : Nat) (v : Nat)).1
  simp only at h2 k2
  generalize bkClear f 18 (u : Nat) (v : Nat) = y at *
  obtain ⟨x2, f2⟩ := y
  simp only at hR k2 h2
  have h3 := fBkWrite_spec f2 k2 18 (r.done : Nat) [(md, b)] ⟨false, true, false⟩ (by simp) (by simp) (by simp [allB]; omega)
  rw [show allB [(md, b)] = b by simp [allB]] at h3
  have k3 := (bkWrite_ok k2 18 (r.done : Nat) b).1
  generalize bkWrite f2 18 (r.done : Nat) b = y at *
  obtain ⟨x3, f3⟩ := y
  simp only at hR k3 h3
  have k4 : TOk (f3, r) := ⟨k3, hs.r⟩
  have h4 := fTrSave_spec (f3, r) k4 1 (r.done + b.length) (by omega) r.init ⟨false, false, false⟩ hri
  generalize trSave (f3, r) 1 (r.done + b.length) r.init = z at *
  obtain ⟨x4, f4, r4⟩ := z
  simp only [bkP] at h2 h3
  simp [lsV] at h3
  simp [kpP, bv, recP] at h4
  simp [c2, c3, e3, e4, e4', e5, e6, e7, e8, e9, e9', e10]
  refine WO_callF [0, 1, 2] rfl rfl h2 (by simp [flP]) (by simp [flP]) (by simp) ?_
  simp [flP]
  by_cases d2 : x2 = 0
  rotate_left
  · rw [if_pos d2] at hR
    rw [hR]
    simp [d2]
    exact fin_W (by simp [flP, c1])
  rw [if_neg (fun z => z d2)] at hR
  simp [d2]
  refine WO_callF [0, 1, 2] rfl (by simp) h3 (by simp [flP]) (by simp [flP]) (by simp) ?_
  simp [flP]
  by_cases d3 : x3 = 0
  rotate_left
  · rw [if_pos d3] at hR
    rw [hR]
    simp [d3]
    exact fin_W (by simp [flP, c1])
  rw [if_neg (fun z => z d3)] at hR
  rw [hR]
  simp [d3, e6]
  refine WO_callF [0, 1, 2, 3] rfl (by simp [bv]) h4 (by simp [flP]) (by simp [flP, c1]) (by simp) ?_
  simp [flP]
  exact fin_W (by simp [flP])
end Go.Proofs.Ytjehncilahjmdaa
