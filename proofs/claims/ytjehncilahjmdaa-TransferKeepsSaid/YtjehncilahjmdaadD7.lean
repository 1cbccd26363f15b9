/-
  An image that is kept piece by piece.
-/
import Derived.Test.YtjehncilahjmdaadD3
set_option linter.unusedSimpArgs false
set_option linter.unnecessarySimpa false
set_option linter.unusedVariables false
set_option linter.unusedSectionVars false
namespace Go.Proofs.Ytjehncilahjmdaa
open Go Go.Fw
attribute [local simp] bv cleanL_bv toBytes_bv ltL_bv atF_drop WS_at_bytes W_nil W_skip W_seq W_reg W_draw W_drawP W_kill W_keep W_block W_blk W_exit W_ret WX_blk WX_c WX_lp WX_li W_li W_condT W_condF W_cond WC_true WC_false
  WR_nil WR_cons WR_o1 WR_o2 o1_chk o2_chk WR_grd WG_tt WG_ff WG_tf WG_ft WG_none WS_some WS_ok1 WSr_no WSr_some WSr_ok1 WSr_at_bytes WH_some WHA_some chkF_cons chkF_nil chkE_some chkE_ok1 chkE_at evF WO_mv WO_pick WO_bin WO_isNil WO_eqA WO_un WO_convI WO_toStr WO_ofStr WO_build WO_buildF WO_load WO_nilCheck WO_fieldAddr WO_field WO_idxA WO_idxS
  WO_ixA WO_slS WO_slA WO_len WO_lenK WO_appF WO_extract WO_s2a WO_iface WO_min WO_max WO_alloc WO_box WO_buildO WO_store WO_appO WO_copy WO_makeS WO_allocA WO_makeA WO_cvt cvtF_slice WO_look lookF_map alAF mkAF WO_func bind1_v bind2_v bindH_v bindH2_v bindS_v okO_v pickO_t pickO_f
  Env.keep Env.get Env.set Env.del Env.dels Env.setO Env.opd Env.opds Env.opdO Env.parts intF aggF fillA splice cleanL AV.clean bndF fldF_one fldF_many toStrF boxF buildOF
  loadF_rptr loadF_rptrN atF_zero atF_succ blk_cons_zero blk_cons_succ loadF_p loadF_pN atB_some atBN_some retPost resL one
  okc_bool cells_bool notStr_bool okc_int cells_int notStr_int okc_str cells_str notStr_str okc_nil cells_nil notStr_nil okc_ptr cells_ptr notStr_ptr okc_rptr cells_rptr notStr_rptr okc_slice cells_slice notStr_slice 
  okc_list cells_list notStr_list okc_func cells_func notStr_func okc_nilFunc cells_nilFunc notStr_nilFunc okc_iface cells_iface notStr_iface okc_nilIface cells_nilIface notStr_nilIface okc_agg cells_agg notStr_agg 
  okc_tuple cells_tuple notStr_tuple lenF_slice lenF_list lenF_str faF_ptr faF_rptr idxSF_slice idxSF_list idxAF_ptr idxAF_rptr ixAF_many ixAF_one convF_int unF_neg unF_xor unF_not nilF_0nil nilF_0ptr nilF_0rptr nilF_1 
  nilF_2nil nilF_2f nilF_3nil nilF_3f binF_int binF_beq binF_bne binF_sadd binF_seq binF_sne sliceCells_list sliceCells_str sliceCells_slice cutC_some szAV_list szAV_str szAV_slice oneSl_list oneSl_slice slSF_sliceS 
  slSF_sliceN slSF_list slAF_rptr slAF_ptr appFF_list appOF_list appOF_sliceN appOF_sliceS storeF_ptr copyF_slice extF_tuple s2aF_slice s2aF_list nchkF_ptr nchkF_rptr nchkF_f mmF_int ofStrF_str mkSF_int eqAF_agg
attribute [local irreducible] W WX WR WO WS WSr WH WHA WG WC FSpec
attribute [local simp] lendAll
attribute [local congr] W_cg WR_cg WO_cg WS_cg WSr_cg WH_cg WHA_cg WG_cg WC_cg WX_cg
attribute [local simp] Env.has AV.wkr wkrL AV.wkr_refl wkrL_refl AV.ltI ltL leHW hasW Env.lt AV.ids idsL AV.sub subL AV.ren AV.frz frzS frzP frzE frzL Heap.frz Blk.frz Blk.ren renL rnS rnP hasR leR idsL_bv subL_bv
attribute [local simp] cleanL_take cleanL_drop ltL_take ltL_drop idsL_take idsL_drop subL_take subL_drop cleanL_append ltL_append idsL_append subL_append
attribute [local simp] renE mvN mvH
attribute [local simp] fwd backH putL bwd
attribute [local simp] u8i u8e List.idxOf_cons
attribute [local simp] hasRW leRW
attribute [local simp] WS_at_map WSr_at_map loadWP splice_full Int.natCast_inj
def packB : List UInt8 := [112, 97, 99, 107, 101, 116]
/-- What holds ahead of each piece. -/
structure KpI (t : Nat) (image : List UInt8) (i : Nat) (f : Fl) (r : Rec) : Prop where
  tn : Tn t i f r
  ok : r.Ok
  worn : f.worn.length = 34
  phase : r.phase = 1
  init : r.init = packB
  right : r.right = true
  done : r.done ≤ image.length
  kept : (f.b.drop 4608).take r.done = image.take r.done
  i24 : i ≤ 24
  more : r.done < image.length → r.done % 1024 = 0 ∧ 1024 * i ≤ r.done + 20480
theorem want_right {r : Rec} {k : Nat} (h : r.right = true) (hk : r.done + k ≤ 4096) : (wantR r k).right = true := by
  unfold Rec.right at h ⊢
  have h := of_decide_eq_true h
  exact decide_eq_true ⟨h.1, hk, by show (1 : UInt8).toNat ≤ 2; decide, h.2.2.2.1, .inl (by show (1 : UInt8).toNat ≠ 0; decide)⟩
theorem want_ok {r : Rec} {k : Nat} (h : r.Ok) (hk : r.done + k ≤ 4096) (hs : r.seq + 1 < 2 ^ 32) : (wantR r k).Ok := ⟨hs, h.floor, h.bytes, h.sum, by show r.done + k < 2 ^ 32; omega, h.init⟩
/-- A piece is put, and what holds then. -/
theorem KpI.step {t i : Nat} {image : List UInt8} {f g : Fl} {r : Rec} (h : KpI t image i f r) (ht : t < 2 ^ 32) (hl : image.length ≤ 4096) (hlt : r.done < image.length) {ns : Nat} (hns : ns ≤ 20)
    (hg : g = f ∨ (i < ns ∧ ∃ k : Int, 0 ≤ k ∧ k < 2 ^ 63 ∧ g = (failF f k (tkN t i)).2)) {p : List UInt8} (hp : p = (image.drop r.done).take 1024) :
    ∃ e g2 r2 got, trPut (g, r) p = (e, g2, r2) ∧ g2.Ok ∧ g.Ok ∧ (∃ q, loadS (powerF g2) = (got, q, 0)) ∧ 8704 ≤ (powerF g2).b.length ∧ KpI t image (i + 1) (powerF g2) got ∧ ((e = 0 ∧ got.done = r.done + p.length) ∨ (e = 5 ∧ (got.done = r.done ∨ got.done = r.done + p.length))) := by
  obtain ⟨hm, hi⟩ := h.more hlt
  have hpl : p.length ≤ 1024 ∧ r.done + p.length ≤ image.length ∧ (r.done + p.length = image.length ∨ p.length = 1024) := by
    rw [hp, List.length_take, List.length_drop]; omega
  have hk32 : tkN t i < 2 ^ 32 := Nat.xor_lt_two_pow ht (Nat.mod_lt _ (by decide))
  obtain ⟨gt, go, gk, gb, gw, ga⟩ : Two g ∧ g.off = false ∧ g.Ok ∧ g.b = f.b ∧ g.worn.length = 34 ∧ (g.armed = true → i < ns ∧ g.tear = tkN t i) := by
    rcases hg with rfl | ⟨hin, k, hk0, hk, rfl⟩
    · exact ⟨h.tn.two, h.tn.off, h.tn.ok, rfl, h.worn, fun q => by rw [h.tn.armed] at q; cases q⟩
    · have hF : failF f k (tkN t i) = (0, { f with armed := true, left := k, tear := tkN t i }) := if_neg (by omega)
      have ok := failF_ok h.tn.ok (n := k) (t := tkN t i) hk hk32
      rw [hF] at ok ⊢
      exact ⟨⟨h.tn.two.lo, h.tn.two.hi, h.tn.two.len, h.tn.two.worn⟩, h.tn.off, ok, rfl, h.worn, fun _ => ⟨hin, rfl⟩⟩
  obtain ⟨e, g2, r2, got, e1, hT, hk, hw, hpre, _, hcase⟩ := put_hi h.tn h.ok gt gk go gb (by omega) (fun q => ⟨by have := (ga q).1; omega, (ga q).2⟩) ht (by have := h.i24; omega) h.phase (by omega) h.right (p := p) (by omega)
  obtain ⟨q, hq⟩ := hT.load
  rw [gb] at hpre
  have hwp : (powerF g2).worn.length = 34 := hw.trans gw
  have hlen : 8704 ≤ (powerF g2).b.length := by have := hT.ok.len; omega
  have hi24 := h.i24
  have hsq := h.tn.seq
  have stay : got = r → i < ns → KpI t image (i + 1) (powerF g2) got := by
    intro hgr hin
    subst hgr
    exact ⟨hT, h.ok, hwp, h.phase, h.init, h.right, h.done, hpre.trans h.kept, by omega, fun _ => ⟨hm, by omega⟩⟩
  have next : got = wantR r p.length → (g2.b.drop (4608 + r.done)).take p.length = p → KpI t image (i + 1) (powerF g2) got := by
    intro hgr hpc
    subst hgr
    refine ⟨hT, want_ok h.ok (by omega) (by omega), hwp, rfl, h.init, want_right h.right (by omega), hpl.2.1, ?_, by omega, fun hx => ?_⟩
    · show (g2.b.drop 4608).take (r.done + p.length) = image.take (r.done + p.length)
      rw [List.take_add, List.take_add, hpre, h.kept, List.drop_drop, hpc]
      have : p = (image.drop r.done).take p.length := by
        have h2 : p.length = min 1024 (image.drop r.done).length := by rw [hp, List.length_take]
        rw [h2, hp]
        rcases Nat.le_total 1024 (image.drop r.done).length with z | z
        · rw [Nat.min_eq_left z]
        · rw [Nat.min_eq_right z, List.take_length, List.take_of_length_le z]
      rw [← this]
    · have hx' : r.done + p.length < image.length := hx
      show (r.done + p.length) % 1024 = 0 ∧ 1024 * (i + 1) ≤ r.done + p.length + 20480
      omega
  refine ⟨e, g2, r2, got, e1, hk, gk, ⟨q, hq⟩, hlen, ?_, ?_⟩
  · rcases hcase with ⟨_, h1, _, h2⟩ | ⟨_, ha, h1 | ⟨h1, h2⟩⟩
    · exact next h1 h2
    · exact stay h1 (ga ha).1
    · exact next h1 h2
  · rcases hcase with ⟨h0, h1, _, h2⟩ | ⟨h0, ha, h1 | ⟨h1, h2⟩⟩
    · exact .inl ⟨h0, by rw [h1]; rfl⟩
    · exact .inr ⟨h0, .inl (by rw [h1])⟩
    · exact .inr ⟨h0, .inr (by rw [h1]; rfl)⟩
set_option maxRecDepth 100000 in
set_option maxHeartbeats 4000000 in
theorem fTrKeeps_spec (image : List UInt8) (m0 : Md) (st : List Int) (m2 : Md) (t : Nat) (ht : t < 2 ^ 32) (hli : image.length < 2 ^ 47) (hs2 : st.length < 2 ^ 47) : FSpec Try.prog 11 [.list 1 m0 (image.map bv), .list 1 m2 (st.map iv), .int .u32 (t : Nat)] [] (.bool true) [] := by
  have hN := fFlNew_spec 34 (by decide) (by decide)
  have h0 := newF_ok (n := 34) (by decide)
  have hNew := fTrNew_spec (newF 34) h0
  have hl0 : (newF 34).b.length = 8704 := List.length_replicate
  rw [trNew_none (by rw [hl0]; exact Nat.le_refl _) (load_new (by decide) (by decide))] at hNew
  simp only at hNew
  obtain ⟨g, hg, hT, hw⟩ := start_hi (n := 34) (by decide) (by decide) (init := packB) (by decide) t
  have hS := fTrStart_spec (newF 34, rec0) ⟨h0, rec0_ok⟩ packB ⟨false, true, false⟩ (by decide)
  rw [hg] at hS
  obtain ⟨r1, hr1⟩ : ∃ r1 : Rec, r1 = { rec0 with seq := 2, phase := 1, init := packB } := ⟨_, rfl⟩
  have hI : KpI t image 0 g r1 := ⟨by rw [hr1]; exact hT, by rw [hr1]; exact ⟨by decide, by decide, by decide, by decide, by decide, by decide⟩, hw, by rw [hr1], by rw [hr1], by rw [hr1]; decide, by rw [hr1]; exact Nat.zero_le _, by rw [hr1]; rfl, by decide, fun _ => by rw [hr1]; exact ⟨rfl, by decide⟩⟩
  rw [← hr1] at hS
  clear hg hT hr1
  generalize newF 34 = f0 at *
  simp only [kpP, flP, recP, List.cons_append, List.nil_append] at hNew hS
  simp [packB, bv, rec0] at hS hNew
  refine FSpec.of_W fTrKeeps_low (by simp) ?_
  simp only [initEnv]
  simp
  refine WO_call rfl fTrLives_spec (by simp) ?_
  simp
  by_cases c1 : (4096 : Int) < image.length
  · simp [c1]
    refine WO_call rfl fTrLives_spec (by simp) ?_
    simp
    exact fin_W (by simp)
  by_cases c2 : (20 : Int) < st.length
  · simp [c1, c2]
    refine WO_call rfl fTrLives_spec (by simp) ?_
    simp
    exact fin_W (by simp)
  simp [c1, c2]
  refine WO_call rfl hN (by simp) ?_
  simp [flP]
  refine WO_callF [0, 1, 2] rfl rfl hNew (by simp) (by simp) (by simp) ?_
  simp
  refine WO_callF [0, 1, 2, 3] rfl rfl hS (by simp) (by simp) (by simp) ?_
  simp
  refine W_loop (X := {x : Nat × Fl × Rec // KpI t image x.1 x.2.1 x.2.2}) (fun x => [(0, .list 1 m0 (image.map bv)), (1, .list 1 m2 (st.map iv)), (2, .int .u32 (t : Nat)), (7, .ptr 0 0), (9, .ptr 3 0), (11, .int .i64 (x.1.1 : Nat))]) (fun x => kpP x.1.2) (fun x => 40 - x.1.1) ⟨(0, g, r1), hI⟩ retPost_le ?_ ?_
  · exact cut_w (by simp [kpP, flP, recP])
  · rintro ⟨⟨i, f, r⟩, hI⟩
    simp only at hI
    have hi24 := hI.i24
    have hdn := hI.done
    have tk : TOk (f, r) := ⟨hI.tn.ok, hI.ok⟩
    have hfl := hI.tn.ok.len
    have hfw := hI.worn
    have hLd := fTrLoad_spec (f, r) tk
    have hIm := fTrImage_spec (f, r) tk
    simp only at hLd
    rw [if_pos hI.phase, if_pos hI.phase, hI.init] at hLd
    rw [show keptN (f, r).2 = r.done from if_pos hI.phase] at hIm
    have hrd : bkBytes f 18 0 (r.done : Nat) = (image.take r.done, 0) := by
      unfold bkBytes
      rw [if_neg (by rw [show bkR f 18 = true from decide_eq_true ⟨by decide, by omega⟩]; simp), if_neg (by omega)]
      unfold readF
      rw [if_neg (by rw [hI.tn.off]; decide), if_neg (by omega), Int.toNat_natCast]
      show ((f.b.drop 4608).take r.done, (0 : Int)) = _
      rw [hI.kept]
    simp only at hIm
    rw [hrd] at hIm
    simp only [kpP, flP, recP, List.cons_append, List.nil_append] at hLd hIm
    simp [packB, bv] at hLd
    have t1 : toBytes [AV.int .u8 112, AV.int .u8 97, AV.int .u8 99, AV.int .u8 107, AV.int .u8 101, AV.int .u8 116] = some [112, 97, 99, 107, 101, 116] := toBytes_bv [112, 97, 99, 107, 101, 116]
    have t2 : toBytes (List.take r.done (List.map bv image)) = some (image.take r.done) := by rw [← List.map_take]; exact toBytes_bv _
    have hi40 : (i : Int) < 40 := by omega
    simp only [kpP, flP, recP, List.cons_append, List.nil_append]
    simp [hi40]
    refine WO_callF [0, 1, 2, 3] rfl rfl hLd (by simp) (by simp) (by simp) ?_
    simp
    refine WO_callF [0, 1, 2, 3] rfl rfl hIm (by simp) (by simp) (by simp) ?_
    have hdn' : ¬ (image.length : Int) < r.done := by omega
    have htk : List.map bv (List.take r.done image) = List.take r.done (List.map bv image) := by rw [List.map_take]
    simp [t1, t2, hdn', htk]
    refine ⟨by omega, ?_⟩
    refine WC_dec (fun hde => ?_) (fun hde => ?_)
    · simp
      exact fin_W (by simp)
    have hlt : r.done < image.length := by omega
    have e1 : IntKind.i64.wrap ((r.done : Int) + 1024) = (r.done : Int) + 1024 := wrap64s (by omega) (by omega)
    obtain ⟨M, hM⟩ : ∃ M : Nat, M = min (r.done + 1024) image.length := ⟨_, rfl⟩
    have hMi : min ((r.done : Int) + 1024) (image.length : Int) = (M : Nat) := by omega
    obtain ⟨p, hp⟩ : ∃ p, p = (image.drop r.done).take 1024 := ⟨_, rfl⟩
    have hpM : List.take (M - r.done) (List.drop r.done (List.map bv image)) = p.map bv := by
      rw [← List.map_drop, ← List.map_take, hp]
      congr 1
      rcases Nat.le_total (r.done + 1024) image.length with z | z
      · rw [show M - r.done = 1024 by omega]
      · rw [List.take_of_length_le (by rw [List.length_drop]; omega), List.take_of_length_le (by rw [List.length_drop]; omega)]
    have hpl : p.length = M - r.done := by rw [hp, List.length_take, List.length_drop]; omega
    simp [e1, hMi, hpM]
    refine ⟨by omega, ?_⟩
    obtain ⟨v, hv⟩ : ∃ v, v = st.getD i 0 := ⟨_, rfl⟩
    obtain ⟨N, hNw⟩ : ∃ N : Nat, IntKind.u64.wrap v = N := ⟨(v % 2 ^ 64).toNat, by unfold IntKind.wrap; simp [IntKind.signed, IntKind.bits]; omega⟩
    obtain ⟨k, hk⟩ : ∃ k, k = N % 400 := ⟨_, rfl⟩
    have ek1 : ((N : Int)).tmod 400 = (k : Nat) := by rw [hk]; rfl
    have ek2 : IntKind.i64.wrap (k : Nat) = (k : Int) := wrap64 (by omega) (by omega)
    have ei1 : IntKind.u32.wrap (i : Int) = (i : Int) := by rw [wrapu32, Nat.mod_eq_of_lt (by omega)]
    have ei2 : IntKind.u32.wrap ((i : Int) * 2654435769) = (kkN i : Nat) := by rw [show (i : Int) * 2654435769 = ((i * 2654435769 : Nat) : Int) by omega, wrapu32]; rfl
    have hkk : kkN i < 2 ^ 32 := Nat.mod_lt _ (by decide)
    have ei3 : bitI .xor .u32 (t : Nat) (kkN i : Nat) = (tkN t i : Nat) := bitI_xor rfl ht hkk
    have htk : tkN t i < 2 ^ 32 := Nat.xor_lt_two_pow ht hkk
    obtain ⟨y, hy⟩ : ∃ y, y = tkN t i := ⟨_, rfl⟩
    obtain ⟨g, hg⟩ : ∃ g, g = if i < st.length then (failF f (k : Nat) y).2 else f := ⟨_, rfl⟩
    have hgs : g = f ∨ (i < st.length ∧ ∃ k : Int, 0 ≤ k ∧ k < 2 ^ 63 ∧ g = (failF f k (tkN t i)).2) := by
      rw [hg, ← hy]
      split
      · rename_i z; exact .inr ⟨z, (k : Nat), by omega, by omega, rfl⟩
      · exact .inl rfl
    rw [← hy] at ei3 htk
    obtain ⟨md, hmd⟩ : ∃ md : Md, md = ⟨m0.nl, m0.full && decide (M = image.length), m0.bw⟩ := ⟨_, rfl⟩
    rw [← hmd]
    refine WC_joinQ [(0, .list 1 m0 (image.map bv)), (1, .list 1 m2 (st.map iv)), (2, .int .u32 (t : Nat)), (7, .ptr 0 0), (9, .ptr 3 0), (11, .int .i64 (i : Nat)), (13, .int .i64 (r.done : Nat)), (16, .list 1 md (p.map bv))] (kpP (g, r)) ?_ (fun k' hW => ?_)
    · obtain ⟨e, g2, r2, got, hput, hg2, hgk, ⟨q, hld⟩, hlen, hI2, hcase⟩ := hI.step ht (by omega) hlt (ns := st.length) (by omega) hgs hp
      have hPt := fTrPut_spec (g, r) ⟨hgk, hI.ok⟩ p md (by omega)
      rw [hput] at hPt
      have hPw := fFlPower_spec g2
      have hpk := powerF_ok hg2
      have hNw2 := fTrNew_spec (powerF g2) hpk
      rw [trNew_some hlen hld] at hNw2
      simp only at hNw2
      have hLd2 := fTrLoad_spec (powerF g2, got) ⟨hpk, hI2.ok⟩
      simp only at hLd2
      rw [if_pos hI2.phase, if_pos hI2.phase, hI2.init] at hLd2
      generalize powerF g2 = g3 at *
      have hgd : got.done < 2 ^ 32 := hI2.ok.done
      simp only [kpP, flP, recP, List.cons_append, List.nil_append] at hPt hPw hNw2 hLd2
      simp only [kpP, flP, recP, List.cons_append, List.nil_append]
      have e2 : IntKind.i64.wrap ((r.done : Int) + p.length) = (r.done : Int) + p.length := wrap64s (by omega) (by omega)
      have e3 : IntKind.i64.wrap ((i : Int) + 1) = (i : Int) + 1 := wrap64s (by omega) (by omega)
      simp
      refine WO_callF [0, 1, 2, 3] rfl (by simp) hPt (by simp) (by simp) (by simp) ?_
      simp
      refine WO_callF [0, 1, 2] rfl rfl hPw (by simp) (by simp) (by simp) ?_
      simp
      refine WO_callF [0, 1, 2] rfl rfl hNw2 (by simp) (by simp) (by simp) ?_
      simp
      refine WO_callF [0, 1, 2, 4] rfl rfl hLd2 (by simp) (by simp) (by simp) ?_
      have hfin : LI 0 (fun x : {x : Nat × Fl × Rec // KpI t image x.1 x.2.1 x.2.2} => [(0, .list 1 m0 (image.map bv)), (1, .list 1 m2 (st.map iv)), (2, .int .u32 (t : Nat)), (7, .ptr 0 0), (9, .ptr 3 0), (11, .int .i64 (x.1.1 : Nat))]) (fun x => kpP x.1.2) (fun x => 40 - x.1.1) ⟨(i, f, r), hI⟩ [(0, .list 1 m0 (image.map bv)), (1, .list 1 m2 (st.map iv)), (2, .int .u32 (t : Nat)), (7, .ptr 0 0), (9, .ptr 4 0), (11, .int .i64 ((i : Int) + 1))] (flP g3 ++ [some ⟨[.ptr 0 0, .int .i64 18] ++ recP r2 ⟨false, false, false⟩, 116, true⟩, some ⟨[.ptr 0 0, .int .i64 18] ++ recP got ⟨false, false, false⟩, 116, true⟩]) := by
        refine ⟨⟨(i + 1, g3, got), hI2⟩, by simp; omega, ?_⟩
        simp only [kpP, flP, recP, List.cons_append, List.nil_append]
        refine cut_rw [0, 1, 2, 4] (by simp) rfl (by simp) ?_
        simp
      simp only [kpP, flP, recP, List.cons_append, List.nil_append] at hfin
      rcases hcase with ⟨rfl, h2⟩ | ⟨rfl, h2 | h2⟩
      · simp [h2, e2, e3]
        rw [h2] at hfin
        push_cast at hfin
        simp at hfin
        exact hfin
      · simp [h2, e2, e3]
        rw [h2] at hfin
        push_cast at hfin
        simp at hfin
        exact hfin
      · have hpn : ¬ (r.done : Int) + (p.length : Int) = r.done := by omega
        simp [h2, e2, e3, hpn]
        rw [h2] at hfin
        push_cast at hfin
        simp at hfin
        exact hfin
    · refine WC_dec (fun hst => ?_) (fun hst => ?_)
      · have hsl : i < st.length := by omega
        rw [if_pos hsl] at hg
        have hvi : st[i]? = some v := by rw [hv, List.getD_eq_getElem?_getD, List.getElem?_eq_getElem hsl]; rfl
        have hF := fFlFail_spec f (k : Nat) y
        generalize failF f (k : Nat) y = F at *
        obtain ⟨eF, g'⟩ := F
        simp only at hg hF
        subst hg
        generalize kkN i = kk at *
        simp only [kpP, flP, recP, List.cons_append, List.nil_append] at hW hF
        simp [hvi, iv, hNw, ek1, ek2, ei1, ei2, ei3]
        repeat (refine ⟨by omega, ?_⟩)
        refine WO_callF [0, 1, 2] rfl rfl hF (by simp) (by simp) (by simp) ?_
        simp
        exact hW
      · rw [if_neg (by omega)] at hg
        subst hg
        simp only [kpP, flP, recP, List.cons_append, List.nil_append] at hW
        simp
        exact hW
theorem flat_iv2 (st : List Int) : st.flatMap (fun x : Int => [iv x]) = st.map iv := by
  induction st with
  | nil => rfl
  | cons x st ih => rw [List.flatMap_cons, ih]; rfl
set_option maxRecDepth 100000 in
theorem fTransferKeeps_law : ∀ args, AllFit Try.prog 8 Try.f11.params.toList args → FSpec Try.prog 11 args [] (.bool true) [] := by
  intro args has
  rw [show Try.f11.params.toList = [22, 38, 23] from by rw [Try.params11]] at has
  obtain ⟨a, as1, rfl, h1, has⟩ := all_cons has
  obtain ⟨b, as2, rfl, h2, has⟩ := all_cons has
  obtain ⟨c, as3, rfl, h3, has⟩ := all_cons has
  cases all_nil has
  obtain ⟨nl, full, x, rfl, hx⟩ := arg_bytes Try.underlying22 Try.underlying5 (by kernel_rfl) (by kernel_rfl) h1
  obtain ⟨nl2, full2, st, rfl, hl2⟩ := arg_slice (fun x : Int => [iv x]) Try.underlying38 (fun y hy => by
    obtain ⟨n, _, _, rfl⟩ := fit_int Try.underlying3 hy; exact ⟨n, rfl⟩) h2
  obtain ⟨n, p1, p2, rfl⟩ := arg_int Try.underlying23 h3
  rw [show IntKind.u32.min = 0 from rfl] at p1
  rw [show IntKind.u32.max = 4294967295 from rfl] at p2
  obtain ⟨t, rfl⟩ : ∃ t : Nat, n = t := ⟨n.toNat, by omega⟩
  rw [show Try.prog.bytesOf 3 = 8 by kernel_rfl] at hl2
  rw [show Try.prog.cellsOf 3 = 1 by kernel_rfl]
  rw [flat_iv2]
  exact fTrKeeps_spec x _ st ⟨nl2, full2, false⟩ t (by omega) (by omega) (by omega)
end Go.Proofs.Ytjehncilahjmdaa
