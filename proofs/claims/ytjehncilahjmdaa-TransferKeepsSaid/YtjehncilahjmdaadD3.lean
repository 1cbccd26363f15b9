/-
  An image that is received, kept in flash: the example.
-/
import Derived.Test.YtjehncilahjmdaaR8
import Derived.Test.YtjehncilahjmdaadD2
set_option linter.unusedSimpArgs false
set_option linter.unnecessarySimpa false
set_option linter.unusedVariables false
set_option linter.unusedSectionVars false
namespace Go.Proofs.Ytjehncilahjmdaa
open Go Go.Fw
attribute [local simp] bv cleanL_bv toBytes_bv ltL_bv atF_drop WS_at_bytes W_nil W_skip W_seq W_reg W_draw W_drawP W_kill W_keep W_block W_blk W_exit W_ret WX_blk WX_c WX_lp WX_li W_li W_condT W_condF W_cond WC_true WC_false
  WR_nil WR_cons WR_o1 WR_o2 o1_chk o2_chk WR_grd WG_tt WG_ff WG_tf WG_ft WG_none WS_some WS_ok1 WSr_no WSr_some WSr_ok1 WSr_at_bytes WH_some WHA_some chkF_cons chkF_nil chkE_some chkE_ok1 chkE_at evF WO_mv WO_pick WO_bin WO_isNil WO_eqA WO_un WO_convI WO_toStr WO_ofStr WO_build WO_buildF WO_load WO_nilCheck WO_fieldAddr WO_field WO_idxA WO_idxS
  WO_ixA WO_slS WO_slA WO_len WO_lenK WO_appF WO_extract WO_s2a WO_iface WO_min WO_max WO_alloc WO_box WO_buildO WO_store WO_appO WO_copy WO_makeS WO_allocA WO_makeA WO_cvt cvtF_slice WO_look lookF_map alAF mkAF WO_func bind1_v bind2_v bindH_v bindH2_v bindS_v okO_v pickO_t pickO_f
  Env.keep Env.get Env.set Env.del Env.dels Env.setO Env.opd Env.opds Env.opdO Env.parts intF aggF fillA splice cleanL AV.clean bndF fldF_one fldF_many toStrF boxF buildOF
  loadF_rptr loadF_rptrN atF_zero atF_succ blk_cons_zero blk_cons_succ loadF_p loadF_pN atB_some atBN_some retPost resL one
  okc_bool cells_bool notStr_bool okc_int cells_int notStr_int okc_str cells_str notStr_str okc_nil cells_nil notStr_nil okc_ptr cells_ptr notStr_ptr okc_rptr cells_rptr notStr_rptr okc_slice cells_slice notStr_slice 
  okc_list cells_list notStr_list okc_func cells_func notStr_func okc_nilFunc cells_nilFunc notStr_nilFunc okc_iface cells_iface notStr_iface okc_nilIface cells_nilIface notStr_nilIface okc_agg cells_agg notStr_agg 
  okc_tuple cells_tuple notStr_tuple lenF_slice lenF_list lenF_str faF_ptr faF_rptr idxSF_slice idxSF_list idxAF_ptr idxAF_rptr ixAF_many ixAF_one convF_int unF_neg unF_xor unF_not nilF_0nil nilF_0ptr nilF_0rptr nilF_1 
  nilF_2nil nilF_2f nilF_3nil nilF_3f binF_int binF_beq binF_bne binF_sadd binF_seq binF_sne sliceCells_list sliceCells_str sliceCells_slice cutC_some szAV_list szAV_str szAV_slice oneSl_list oneSl_slice slSF_sliceS 
  slSF_sliceN slSF_list slAF_rptr slAF_ptr appFF_list appOF_list appOF_sliceN appOF_sliceS storeF_ptr copyF_slice extF_tuple s2aF_slice s2aF_list nchkF_ptr nchkF_rptr nchkF_f mmF_int ofStrF_str mkSF_int eqAF_agg
attribute [local irreducible] W WX WR WO WS WSr WH WHA WG WC FSpec
attribute [local simp] lendAll
attribute [local congr] W_cg WR_cg WO_cg WS_cg WSr_cg WH_cg WHA_cg WG_cg WC_cg WX_cg
attribute [local simp] Env.has AV.wkr wkrL AV.wkr_refl wkrL_refl AV.ltI ltL leHW hasW Env.lt AV.ids idsL AV.sub subL AV.ren AV.frz frzS frzP frzE frzL Heap.frz Blk.frz Blk.ren renL rnS rnP hasR leR idsL_bv subL_bv
attribute [local simp] cleanL_take cleanL_drop ltL_take ltL_drop idsL_take idsL_drop subL_take subL_drop cleanL_append ltL_append idsL_append subL_append
attribute [local simp] renE mvN mvH
attribute [local simp] fwd backH putL bwd
attribute [local simp] u8i u8e List.idxOf_cons
attribute [local simp] hasRW leRW
attribute [local simp] WS_at_map WSr_at_map loadWP splice_full Int.natCast_inj
/-- How much is kept. -/
def keptN (r : Rec) : Nat := if r.phase = 1 then r.done else 0
theorem fTrImage_spec (s : Fl × Rec) (hs : TOk s) : FSpec Try.prog 51 [.ptr 3 0] (kpP s) (.tuple [.list 1 ⟨false, false, false⟩ ((bkBytes s.1 18 0 (keptN s.2 : Nat)).1.map bv), .int .i64 (bkBytes s.1 18 0 (keptN s.2 : Nat)).2]) (kpP s) := by
  have h1 := fTrLoad_spec s hs
  rw [show (if s.2.phase = 1 then s.2.done else 0) = keptN s.2 from rfl] at h1
  have h2 := fBkBytes_spec s.1 hs.f 18 0 (keptN s.2 : Nat) (by decide)
  generalize keptN s.2 = k at *
  generalize (if s.2.phase = 1 then s.2.init else []) = i at *
  obtain ⟨x, e, hx⟩ : ∃ x e, bkBytes s.1 18 0 (k : Nat) = (x, e) := ⟨_, _, rfl⟩
  rw [hx] at h2 ⊢
  simp only [bkP] at h2
  refine FSpec.of_W fTrImage_low (by simp) ?_
  simp only [initEnv, kpP, flP, recP, List.cons_append, List.nil_append] at h1 ⊢
  simp
  refine WO_callF [0, 1, 2, 3] rfl rfl h1 (by simp) (by simp) (by simp) ?_
  simp
  refine WO_callF [0, 1, 2] rfl rfl h2 (by simp [flP]) (by simp [flP]) (by simp) ?_
  simp [flP]
  exact fin_W (by simp)
theorem trNew_some {f : Fl} {r : Rec} {p : Nat} (h : 8704 ≤ f.b.length) (hl : loadS f = (r, p, 0)) : trNew f = (some r, 0) := by
  unfold trNew
  rw [if_neg (by omega), hl]
  rfl
theorem trNew_none {f : Fl} (h : 8704 ≤ f.b.length) (hl : loadS f = (rec0, 0, 15)) : trNew f = (some rec0, 0) := by
  unfold trNew
  rw [if_neg (by omega), hl]
  rfl
theorem load_new {n : Nat} (h1 : 2 ≤ n) (h2 : n ≤ 64) : loadS (newF n) = (rec0, 0, 15) := by
  have ht : Two (newF n) := ⟨rfl, rfl, (newF_ok h2).len, by show 2 ≤ (List.replicate n (0 : Int)).length ∧ (List.replicate n (0 : Int)).length ≤ 64; rw [List.length_replicate]; omega⟩
  have hb0 : (newF n).b = List.replicate (256 * n) 255 := rfl
  have hpg : ∀ p, p ≤ 1 → pg (newF n).b p = List.replicate 256 255 := by
    intro p hp
    unfold pg
    rw [hb0, List.drop_replicate, List.take_replicate, Nat.min_eq_left (by omega)]
  have q0 : (rdF (newF n) 0).2 ≠ 0 := by rw [rdF_two ht rfl (by decide), hpg 0 (by decide)]; exact ff_bad
  have q1 : (rdF (newF n) 1).2 ≠ 0 := by rw [rdF_two ht rfl (by decide), hpg 1 (by decide)]; exact ff_bad
  unfold loadS
  rw [if_neg (by rw [hb0, List.length_replicate]; omega), if_neg (by show ¬ false = true; decide)]
  have : newestS (newF n) = none := by
    unfold newestS
    rw [if_neg q0, if_neg q1]
  rw [this]
theorem fTrPut_own (s : Fl × Rec) (hs : TOk s) (d : List UInt8) (hd : d.length < 2 ^ 40) (c : Option Nat) (T : Nat) : FSpec Try.prog 42 [.ptr 3 0, .slice 1 4 0 d.length c] (kpP s ++ [some ⟨d.map bv, T, true⟩]) (.int .i64 (trPut s d).1) (kpP (trPut s d).2 ++ [some ⟨d.map bv, T, true⟩]) := by
  have h := fTrPut_spec s hs d ⟨false, decide (c = some d.length), true⟩ hd
  have h2 : FSpec Try.prog 42 [.ptr 3 0, .list 1 ⟨false, decide (c = some d.length), true⟩ (d.map bv)] (kpP s ++ [none]) (.int .i64 (trPut s d).1) (kpP (trPut s d).2 ++ [none]) := by
    have := FSpec.frameR (P := Try.prog) (f := 42) (H := kpP s ++ [none]) (Hs := kpP s) (Hs' := kpP (trPut s d).2) (r := .int .i64 (trPut s d).1) («as» := [.ptr 3 0, .list 1 ⟨false, decide (c = some d.length), true⟩ (d.map bv)]) [0, 1, 2, 3] (by simp) (by simp [kpP, flP]) (by simp [kpP, flP]) (by simp [kpP, flP, recP]) (by simp) (by simpa using h)
    simpa [kpP, flP, recP] using this
  have h3 := FSpec.lend (H := kpP s ++ [some ⟨d.map bv, T, true⟩]) («as» := [.ptr 3 0, .slice 1 4 0 d.length c]) (id := 4) (b := ⟨d.map bv, T, true⟩) rfl (.inr rfl) (r := .int .i64 (trPut s d).1) (H' := kpP (trPut s d).2 ++ [none]) rfl (by simp [kpP, flP]) (by simpa [kpP, flP, List.take_of_length_le] using h2)
  simpa [kpP, flP] using h3
def initB : List UInt8 := [105, 110, 105, 116]
set_option maxRecDepth 100000 in
theorem fTrLives_spec : FSpec Try.prog 38 [] [] (.bool true) [] := by
  have hN := fFlNew_spec 34 (by decide) (by decide)
  have h0 := newF_ok (n := 34) (by decide)
  have hNew := fTrNew_spec (newF 34) h0
  have hl0 : (newF 34).b.length = 8704 := List.length_replicate
  rw [trNew_none (by rw [hl0]; exact Nat.le_refl _) (load_new (by decide) (by decide))] at hNew
  simp only at hNew
  obtain ⟨g, hg, hT, hw⟩ := start_hi (n := 34) (by decide) (by decide) (init := initB) (by decide) 0
  have hS := fTrStart_spec (newF 34, rec0) ⟨h0, rec0_ok⟩ initB ⟨false, true, false⟩ (by decide)
  rw [hg] at hS
  obtain ⟨r1, hr1⟩ : ∃ r1 : Rec, r1 = { rec0 with seq := 2, phase := 1, init := initB } := ⟨_, rfl⟩
  have hr1k : r1.Ok := by rw [hr1]; exact ⟨by decide, by decide, by decide, by decide, by decide, by decide⟩
  rw [← hr1] at hT hS
  obtain ⟨e, g2, r2, got, hp, hT2, hg2, hw2, _, hcalm, hcase⟩ := put_hi hT hr1k hT.two hT.ok hT.off rfl (by rw [hw]; exact Nat.le_refl _) (fun q => by rw [hT.armed] at q; cases q) (by decide) (by decide) (by rw [hr1]) (by rw [hr1]; rfl) (by rw [hr1]; decide) (p := List.replicate 1024 0) (by rw [hr1, List.length_replicate]; decide)
  obtain ⟨rfl, hpw⟩ := hcalm hT.armed
  rcases hcase with ⟨_, hgot, hr2, _⟩ | ⟨z, _⟩
  rotate_left
  · exact absurd z (by decide)
  have hP := fTrPut_own (g, r1) ⟨hT.ok, hr1k⟩ (List.replicate 1024 0) (by rw [List.length_replicate]; decide) (some 1024) 5
  rw [hp] at hP
  rw [hpw] at hT2
  obtain ⟨pp, hld⟩ := hT2.load
  have hlen2 := hg2.len
  have hNew2 := fTrNew_spec g2 hg2
  rw [trNew_some (by rw [hlen2, hw2, hw]; decide) hld] at hNew2
  simp only at hNew2
  have hgk : TOk (g2, got) := by
    refine ⟨hg2, ?_⟩
    have := (loadS_ok g2).1
    rw [hld] at this; exact this
  have hLd := fTrLoad_spec (g2, got) hgk
  have hgi : got.phase = 1 ∧ got.init = initB ∧ got.done = 1024 := by rw [hgot, hr1]; exact ⟨rfl, rfl, by simp [wantR, rec0]⟩
  simp only at hLd
  rw [if_pos hgi.1, if_pos hgi.1, hgi.2.1, hgi.2.2] at hLd
  clear hg hp hT hT2 hld hgk hgot hr2
  generalize newF 34 = f0 at *
  simp only [kpP, flP, recP, List.cons_append, List.nil_append] at hNew hS hP hNew2 hLd
  simp [initB, bv, rec0] at hS hLd hNew
  simp [bv] at hP hNew2
  refine FSpec.of_W fTrLives_low (by simp) ?_
  simp only [initEnv]
  simp
  refine WO_call rfl hN (by simp) ?_
  simp [flP]
  refine WO_callF [0, 1, 2] rfl rfl hNew (by simp) (by simp) (by simp) ?_
  simp
  refine WO_callF [0, 1, 2, 3] rfl rfl hS (by simp) (by simp) (by simp) ?_
  simp
  refine WO_callF [0, 1, 2, 3, 5] rfl rfl hP (by simp) (by simp) (by simp) ?_
  simp
  refine WO_callF [0, 1, 2] rfl rfl hNew2 (by simp) (by simp) (by simp) ?_
  simp
  refine WO_callF [0, 1, 2, 6] rfl rfl hLd (by simp) (by simp) (by simp) ?_
  have t1 : toBytes [AV.int .u8 105, AV.int .u8 110, AV.int .u8 105, AV.int .u8 116] = some [105, 110, 105, 116] := toBytes_bv [105, 110, 105, 116]
  simp [t1]
  exact fin_W (by simp)
end Go.Proofs.Ytjehncilahjmdaa
