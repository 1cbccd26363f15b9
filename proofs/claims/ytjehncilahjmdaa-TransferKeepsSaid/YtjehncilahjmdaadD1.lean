/-
  An image that is received, kept in flash.
-/
import Derived.Test.YtjehncilahjmdaaTR1
import Derived.Test.YtjehncilahjmdaadKT
import Derived.Test.YtjehncilahjmdaadC6
set_option linter.unusedSimpArgs false
set_option linter.unnecessarySimpa false
set_option linter.unusedVariables false
set_option linter.unusedSectionVars false
namespace Go.Proofs.Ytjehncilahjmdaa
open Go Go.Fw
attribute [local simp] bv cleanL_bv toBytes_bv ltL_bv atF_drop WS_at_bytes W_nil W_skip W_seq W_reg W_draw W_drawP W_kill W_keep W_block W_blk W_exit W_ret WX_blk WX_c WX_lp WX_li W_li W_condT W_condF W_cond WC_true WC_false
  WR_nil WR_cons WR_o1 WR_o2 o1_chk o2_chk WR_grd WG_tt WG_ff WG_tf WG_ft WG_none WS_some WS_ok1 WSr_no WSr_some WSr_ok1 WSr_at_bytes WH_some WHA_some chkF_cons chkF_nil chkE_some chkE_ok1 chkE_at evF WO_mv WO_pick WO_bin WO_isNil WO_eqA WO_un WO_convI WO_toStr WO_ofStr WO_build WO_buildF WO_load WO_nilCheck WO_fieldAddr WO_field WO_idxA WO_idxS
  WO_ixA WO_slS WO_slA WO_len WO_lenK WO_appF WO_extract WO_s2a WO_iface WO_min WO_max WO_alloc WO_box WO_buildO WO_store WO_appO WO_copy WO_makeS WO_allocA WO_makeA WO_cvt cvtF_slice WO_look lookF_map alAF mkAF WO_func bind1_v bind2_v bindH_v bindH2_v bindS_v okO_v pickO_t pickO_f
  Env.keep Env.get Env.set Env.del Env.dels Env.setO Env.opd Env.opds Env.opdO Env.parts intF aggF fillA splice cleanL AV.clean bndF fldF_one fldF_many toStrF boxF buildOF
  loadF_rptr loadF_rptrN atF_zero atF_succ blk_cons_zero blk_cons_succ loadF_p loadF_pN atB_some atBN_some retPost resL one
  okc_bool cells_bool notStr_bool okc_int cells_int notStr_int okc_str cells_str notStr_str okc_nil cells_nil notStr_nil okc_ptr cells_ptr notStr_ptr okc_rptr cells_rptr notStr_rptr okc_slice cells_slice notStr_slice 
  okc_list cells_list notStr_list okc_func cells_func notStr_func okc_nilFunc cells_nilFunc notStr_nilFunc okc_iface cells_iface notStr_iface okc_nilIface cells_nilIface notStr_nilIface okc_agg cells_agg notStr_agg 
  okc_tuple cells_tuple notStr_tuple lenF_slice lenF_list lenF_str faF_ptr faF_rptr idxSF_slice idxSF_list idxAF_ptr idxAF_rptr ixAF_many ixAF_one convF_int unF_neg unF_xor unF_not nilF_0nil nilF_0ptr nilF_0rptr nilF_1 
  nilF_2nil nilF_2f nilF_3nil nilF_3f binF_int binF_beq binF_bne binF_sadd binF_seq binF_sne sliceCells_list sliceCells_str sliceCells_slice cutC_some szAV_list szAV_str szAV_slice oneSl_list oneSl_slice slSF_sliceS 
  slSF_sliceN slSF_list slAF_rptr slAF_ptr appFF_list appOF_list appOF_sliceN appOF_sliceS storeF_ptr copyF_slice extF_tuple s2aF_slice s2aF_list nchkF_ptr nchkF_rptr nchkF_f mmF_int ofStrF_str mkSF_int eqAF_agg
attribute [local irreducible] W WX WR WO WS WSr WH WHA WG WC FSpec
attribute [local simp] lendAll
attribute [local congr] W_cg WR_cg WO_cg WS_cg WSr_cg WH_cg WHA_cg WG_cg WC_cg WX_cg
attribute [local simp] Env.has AV.wkr wkrL AV.wkr_refl wkrL_refl AV.ltI ltL leHW hasW Env.lt AV.ids idsL AV.sub subL AV.ren AV.frz frzS frzP frzE frzL Heap.frz Blk.frz Blk.ren renL rnS rnP hasR leR idsL_bv subL_bv
attribute [local simp] cleanL_take cleanL_drop ltL_take ltL_drop idsL_take idsL_drop subL_take subL_drop cleanL_append ltL_append idsL_append subL_append
attribute [local simp] renE mvN mvH
attribute [local simp] fwd backH putL bwd
attribute [local simp] u8i u8e List.idxOf_cons
attribute [local simp] hasRW leRW
attribute [local simp] WS_at_map WSr_at_map loadWP splice_full Int.natCast_inj
/-- A keeper in memory, behind its flash. -/
def kpP (s : Fl × Rec) : Heap := flP s.1 ++ [some ⟨[.ptr 0 0, .int .i64 18] ++ recP s.2 ⟨false, false, false⟩, 116, true⟩]
theorem fTrNew_spec (f : Fl) (hf : f.Ok) : FSpec Try.prog 39 [.ptr 0 0] (flP f) (match (trNew f).1 with | none => .tuple [.nil, .int .i64 (trNew f).2] | some _ => .tuple [.ptr 3 0, .int .i64 0]) (match (trNew f).1 with | none => flP f | some r => kpP (f, r)) := by
  have hs := fFlSize_spec f
  have hld := fSetLoad_spec f hf
  obtain ⟨R, hR⟩ : ∃ R, R = trNew f := ⟨_, rfl⟩
  rw [← hR]
  unfold trNew at hR
  obtain ⟨w, p, e, hw⟩ : ∃ w p e, loadS f = (w, p, e) := ⟨_, _, _, rfl⟩
  rw [hw] at hld hR
  simp only at hR
  simp only [ldP, recP] at hld
  refine FSpec.of_W fTrNew_low (by simp) ?_
  simp only [initEnv]
  simp [flP]
  refine WO_callF [0, 1, 2] rfl rfl hs (by simp [flP]) (by simp [flP]) (by simp) ?_
  simp [flP]
  by_cases c1 : f.b.length < 8704
  · rw [if_pos c1] at hR
    have c1' : (f.b.length : Int) < 8704 := by omega
    rw [hR]
    simp [c1']
    exact fin_W (by simp)
  rw [if_neg c1] at hR
  have c1' : ¬ (f.b.length : Int) < 8704 := by omega
  simp [c1']
  refine WO_callF [0, 1, 2] rfl rfl hld (by simp [flP]) (by simp [flP]) (by simp) ?_
  simp [flP]
  by_cases c2 : e = 0
  · rw [if_neg (fun z => z.1 c2)] at hR
    rw [hR]
    simp [c2]
    refine fin_R [0, 1, 2, 4] (by simp) rfl (by simp) (H1 := kpP (f, w)) (by simp [kpP, flP, recP]) (fin_W ?_)
    simp [kpP, flP, recP]
  · by_cases c3 : e = 15
    · rw [if_neg (fun z => z.2 c3)] at hR
      rw [hR]
      simp [c2, c3]
      refine fin_R [0, 1, 2, 4] (by simp) rfl (by simp) (H1 := kpP (f, w)) (by simp [kpP, flP, recP]) (fin_W ?_)
      simp [kpP, flP, recP]
    · rw [if_pos ⟨c2, c3⟩] at hR
      rw [hR]
      simp [c2, c3]
      exact fin_W (by simp)
theorem fTrLoad_spec (s : Fl × Rec) (hs : TOk s) : FSpec Try.prog 40 [.ptr 3 0] (kpP s) (.tuple [.list 1 ⟨false, false, false⟩ ((if s.2.phase = 1 then s.2.init else []).map bv), .int .i64 (if s.2.phase = 1 then s.2.done else 0 : Nat)]) (kpP s) := by
  have hi := hs.r.init
  have hd := hs.r.done
  have hcl := fCloneB_spec s.2.init ⟨false, false, false⟩ (by omega)
  have e1 : IntKind.i64.wrap (s.2.done : Int) = (s.2.done : Int) := wrap64s (by omega) (by omega)
  refine FSpec.of_W fTrLoad_low (by simp) ?_
  simp only [initEnv, kpP, flP, recP, List.cons_append, List.nil_append]
  simp
  by_cases c1 : s.2.phase = 1
  · have c1' : (s.2.phase.toNat : Int) = 1 := by rw [c1]; rfl
    simp [c1, e1]
    refine WO_callP [] rfl rfl hcl (by simp) (by simp) ?_
    simp
    exact fin_W (by simp [c1])
  · have c1' : ¬ (s.2.phase.toNat : Int) = 1 := fun q => c1 (UInt8.toNat_inj.1 (by simp; omega))
    simp [c1, c1']
    exact fin_W (by simp)
set_option maxRecDepth 100000 in
theorem fTrSave_spec (s : Fl × Rec) (hs : TOk s) (phase : UInt8) (done : Nat) (hd : done < 2 ^ 32) (init : List UInt8) (md : Md) (hi : init.length < 2 ^ 40) : FSpec Try.prog 71 [.ptr 3 0, bv phase, .int .i64 (done : Nat), .list 1 md (init.map bv)] (kpP s) (.int .i64 (trSave s phase done init).1) (kpP (trSave s phase done init).2) := by
  have hcl := fCloneB_spec init md (by omega)
  obtain ⟨n, hn⟩ : ∃ n : Rec, n = { s.2 with phase := phase, done := done, init := init } := ⟨_, rfl⟩
  have hnk : n.Ok := by rw [hn]; exact ⟨hs.r.seq, hs.r.floor, hs.r.bytes, hs.r.sum, hd, hi⟩
  have hsv := fSetSave_spec s.1 hs.f n hnk ⟨false, false, false⟩ rfl
  obtain ⟨R, hR⟩ : ∃ R, R = trSave s phase done init := ⟨_, rfl⟩
  rw [← hR]
  unfold trSave at hR
  simp only at hR
  rw [← hn] at hR
  generalize saveS s.1 n = x at *
  obtain ⟨y, e, g⟩ := x
  simp only at hR hsv
  simp only [recP, svP] at hsv
  have n1 : n.seq = s.2.seq ∧ n.floor = s.2.floor ∧ n.bytes = s.2.bytes ∧ n.sum = s.2.sum ∧ n.phase = phase ∧ n.done = done ∧ n.init = init := by rw [hn]; simp
  obtain ⟨n1, n2, n3, n4, n5, n6, n7⟩ := n1
  rw [n1, n2, n3, n4, n5, n6, n7] at hsv
  have e1 : IntKind.u32.wrap (done : Int) = (done : Int) := by rw [wrapu32, Nat.mod_eq_of_lt (by omega)]
  refine FSpec.of_W fTrSave_low (by simp) ?_
  simp only [initEnv, kpP, flP, recP, List.cons_append, List.nil_append]
  simp [e1, bv]
  refine WO_callP [] rfl rfl hcl (by simp) (by simp) ?_
  simp
  refine WO_callF [0, 1, 2] rfl (by simp [bv]) hsv (by simp [flP]) (by simp [flP]) (by simp [flP]) ?_
  simp [flP]
  by_cases c : e = 0
  · rw [if_pos c] at hR
    rw [hR]
    simp [c]
    exact fin_W (by simp [flP])
  · rw [if_neg c] at hR
    rw [hR]
    simp [c]
    exact fin_W (by simp [flP])
end Go.Proofs.Ytjehncilahjmdaa
