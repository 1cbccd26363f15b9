/-
  The document's settings.
-/
import Derived.Test.YtjehncilahjmdaadF7
set_option linter.unusedSimpArgs false
set_option linter.unnecessarySimpa false
set_option linter.unusedVariables false
set_option linter.unusedSectionVars false
namespace Go.Proofs.Ytjehncilahjmdaa
open Go Go.Fw
attribute [local simp] bv cleanL_bv toBytes_bv ltL_bv atF_drop WS_at_bytes W_nil W_skip W_seq W_reg W_draw W_drawP W_kill W_keep W_block W_blk W_exit W_ret WX_blk WX_c WX_lp WX_li W_li W_condT W_condF W_cond WC_true WC_false
  WR_nil WR_cons WR_o1 WR_o2 o1_chk o2_chk WR_grd WG_tt WG_ff WG_tf WG_ft WG_none WS_some WS_ok1 WSr_no WSr_some WSr_ok1 WSr_at_bytes WH_some WHA_some chkF_cons chkF_nil chkE_some chkE_ok1 chkE_at evF WO_mv WO_pick WO_bin WO_isNil WO_eqA WO_un WO_convI WO_toStr WO_ofStr WO_build WO_buildF WO_load WO_nilCheck WO_fieldAddr WO_field WO_idxA WO_idxS
  WO_ixA WO_slS WO_slA WO_len WO_lenK WO_appF WO_extract WO_s2a WO_iface WO_min WO_max WO_alloc WO_box WO_buildO WO_store WO_appO WO_copy WO_makeS WO_allocA WO_makeA WO_cvt cvtF_slice WO_look lookF_map alAF mkAF WO_func bind1_v bind2_v bindH_v bindH2_v bindS_v okO_v pickO_t pickO_f
  Env.keep Env.get Env.set Env.del Env.dels Env.setO Env.opd Env.opds Env.opdO Env.parts intF aggF fillA splice cleanL AV.clean bndF fldF_one fldF_many toStrF boxF buildOF
  loadF_rptr loadF_rptrN atF_zero atF_succ blk_cons_zero blk_cons_succ loadF_p loadF_pN atB_some atBN_some retPost resL one
  okc_bool cells_bool notStr_bool okc_int cells_int notStr_int okc_str cells_str notStr_str okc_nil cells_nil notStr_nil okc_ptr cells_ptr notStr_ptr okc_rptr cells_rptr notStr_rptr okc_slice cells_slice notStr_slice 
  okc_list cells_list notStr_list okc_func cells_func notStr_func okc_nilFunc cells_nilFunc notStr_nilFunc okc_iface cells_iface notStr_iface okc_nilIface cells_nilIface notStr_nilIface okc_agg cells_agg notStr_agg 
  okc_tuple cells_tuple notStr_tuple lenF_slice lenF_list lenF_str faF_ptr faF_rptr idxSF_slice idxSF_list idxAF_ptr idxAF_rptr ixAF_many ixAF_one convF_int unF_neg unF_xor unF_not nilF_0nil nilF_0ptr nilF_0rptr nilF_1 
  nilF_2nil nilF_2f nilF_3nil nilF_3f binF_int binF_beq binF_bne binF_sadd binF_seq binF_sne sliceCells_list sliceCells_str sliceCells_slice cutC_some szAV_list szAV_str szAV_slice oneSl_list oneSl_slice slSF_sliceS 
  slSF_sliceN slSF_list slAF_rptr slAF_ptr appFF_list appOF_list appOF_sliceN appOF_sliceS storeF_ptr copyF_slice extF_tuple s2aF_slice s2aF_list nchkF_ptr nchkF_rptr nchkF_f mmF_int ofStrF_str mkSF_int eqAF_agg
attribute [local irreducible] W WX WR WO WS WSr WH WHA WG WC FSpec
attribute [local simp] lendAll
attribute [local congr] W_cg WR_cg WO_cg WS_cg WSr_cg WH_cg WHA_cg WG_cg WC_cg WX_cg
attribute [local simp] Env.has AV.wkr wkrL AV.wkr_refl wkrL_refl AV.ltI ltL leHW hasW Env.lt AV.ids idsL AV.sub subL AV.ren AV.frz frzS frzP frzE frzL Heap.frz Blk.frz Blk.ren renL rnS rnP hasR leR idsL_bv subL_bv
attribute [local simp] cleanL_take cleanL_drop ltL_take ltL_drop idsL_take idsL_drop subL_take subL_drop cleanL_append ltL_append idsL_append subL_append
attribute [local simp] renE mvN mvH
attribute [local simp] fwd backH putL bwd
attribute [local simp] u8i u8e List.idxOf_cons
attribute [local simp] hasRW leRW
attribute [local simp] WS_at_map WSr_at_map loadWP splice_full Int.natCast_inj
def ldR (x : Rec × Nat × Int) : AV := .tuple [.agg (recR x.1 ⟨false, false, false⟩), .int .i64 (x.2.1 : Nat), .int .i64 x.2.2]
theorem rdF_on {f : Fl} (ho : f.off = false) (p : Nat) (h : 256 * p + 160 ≤ f.b.length) : rdF f p = parseR ((f.b.drop (256 * p)).take 160) := by
  rw [rdF, readF, if_neg (by simp [ho]), if_neg (by omega), Int.toNat_natCast]
  rfl
set_option maxRecDepth 100000 in
theorem fRSetLoad_spec (f : Fl) (hf : f.Ok) : FSpec Try.prog 49 [.ptr 0 0] (rflP f) (ldR (loadS f)) (rflP f) := by
  have hl := hf.len
  have hp := hf.pages
  obtain ⟨R, hR⟩ : ∃ R, R = loadS f := ⟨_, rfl⟩
  rw [← hR]
  unfold loadS at hR
  refine FSpec.of_W fRSetLoad_low (by simp) ?_
  simp only [initEnv]
  simp [rflP]
  by_cases c1 : f.b.length < 512
  · rw [if_pos c1] at hR
    rw [hR]
    have c1' : (f.worn.length : Int) < 2 := by omega
    simp [c1']
    exact fin_W (by simp [ldR, recR, rec0])
  rw [if_neg c1] at hR
  have c1' : ¬ (f.worn.length : Int) < 2 := by omega
  simp [c1']
  cases ho : f.off
  · rw [if_neg (by simp [ho])] at hR
    have h0 := fRRecParse_spec ((f.b.drop 0).take 160) ⟨false, false, true⟩ (by simp; omega)
    have h1 := fRRecParse_spec ((f.b.drop 256).take 160) ⟨false, false, true⟩ (by simp; omega)
    have r0 := rdF_on ho 0 (by omega)
    have r1 := rdF_on ho 1 (by omega)
    rw [Nat.mul_zero] at r0
    rw [Nat.mul_one] at r1
    rw [← r0] at h0
    rw [← r1] at h1
    unfold newestS at hR
    obtain ⟨a, ea, hA⟩ : ∃ a ea, rdF f 0 = (a, ea) := ⟨_, _, rfl⟩
    obtain ⟨b, eb, hB⟩ : ∃ b eb, rdF f 1 = (b, eb) := ⟨_, _, rfl⟩
    rw [hA] at h0 hR
    rw [hB] at h1 hR
    simp only at hR
    simp
    rw [List.drop_zero] at h0
    refine ⟨by omega, ?_⟩
    refine WO_callP (as' := [.list 1 ⟨false, false, true⟩ ((f.b.take 160).map bv)]) [1] rfl (by simp; omega) h0 (by simp [recRR, recR]) (by simp) ?_
    simp [recRR, recR]
    refine ⟨by omega, ?_⟩
    refine WO_callP (as' := [.list 1 ⟨false, false, true⟩ (((f.b.drop 256).take 160).map bv)]) [1] rfl (by simp; omega) h1 (by simp [recRR, recR]) (by simp) ?_
    simp [recRR, recR]
    by_cases he : ea = 0
    · rw [if_pos he] at hR
      by_cases hb : eb = 0
      · by_cases hq : a.seq < b.seq
        · rw [if_pos ⟨hb, hq⟩] at hR
          simp [he, hb, hq]
          exact fin_W (by simp [hR, ldR, recR])
        · rw [if_neg (fun h => hq h.2)] at hR
          simp [he, hb, hq]
          exact fin_W (by simp [hR, ldR, recR])
      · rw [if_neg (fun h => hb h.1)] at hR
        simp [he, hb]
        exact fin_W (by simp [hR, ldR, recR])
    · rw [if_neg he] at hR
      by_cases hb : eb = 0
      · rw [if_pos hb] at hR
        simp [he, hb]
        exact fin_W (by simp [hR, ldR, recR])
      · rw [if_neg hb] at hR
        simp [he, hb]
        exact fin_W (by simp [hR, ldR, recR, rec0])
  · rw [if_pos ho] at hR
    rw [hR]
    simp
    exact fin_W (by simp [ldR, recR, rec0, ho])
/-- What the rest of Save answers. -/
def svR (x : Rec × Int) : AV := .tuple [.agg (recR x.1 ⟨false, false, false⟩), .int .i64 x.2]
set_option maxRecDepth 100000 in
set_option maxHeartbeats 2000000 in
theorem fRSetSave_spec (f : Fl) (hf : f.Ok) (r : Rec) (hr : r.Ok) (md : Md) (hm : md.bw = false) : FSpec Try.prog 64 [.ptr 0 0, .agg (recR r md)] (rflP f) (svR ((saveS f r).1, (saveS f r).2.1)) (rflP (saveS f r).2.2) := by
  obtain ⟨R, hR⟩ : ∃ R, R = saveS f r := ⟨_, rfl⟩
  rw [← hR]
  have hLd := fRSetLoad_spec f hf
  obtain ⟨hwo, hto⟩ := loadS_ok f
  have h15 := loadS_15 f
  unfold saveS at hR
  obtain ⟨was, page, e, hw⟩ : ∃ was page e, loadS f = (was, page, e) := ⟨_, _, _, rfl⟩
  rw [hw] at hLd hwo hto h15 hR
  simp only at hLd hwo hto h15 hR
  refine FSpec.of_W fRSetSave_low (by simp) ?_
  simp only [initEnv]
  simp [recR, hm]
  refine WO_callF [0, 1, 2] rfl rfl hLd (by simp [rflP]) (by simp [rflP]) (by simp) ?_
  simp [rflP, ldR, recR]
  have hsq := hwo.seq
  by_cases hE : e = 0 ∨ e = 15
  rotate_left
  · have q1 : ¬ e = 0 := fun z => hE (.inl z)
    have q2 : ¬ e = 15 := fun z => hE (.inr z)
    rw [if_pos ⟨q1, q2⟩] at hR
    rw [hR]
    simp [q1, q2]
    exact fin_W (by simp [svR, recR, rec0, rflP])
  rw [if_neg (fun z => hE.elim z.1 z.2)] at hR
  by_cases hs : was.seq = 4294967295
  · have he : e = 0 := hE.resolve_right fun z => by rw [h15 z] at hs; exact absurd hs (by decide)
    rw [if_pos ⟨he, hs⟩] at hR
    rw [hR]
    simp [he, hs]
    exact fin_W (by simp [svR, recR, rec0, rflP])
  rw [if_neg (fun z => hs z.2)] at hR
  obtain ⟨n, hn⟩ : ∃ n : Rec, n = { r with seq := was.seq + 1 } := ⟨_, rfl⟩
  have hnk : n.Ok := by rw [hn]; exact ⟨by simp only; omega, hr.floor, hr.bytes, hr.sum, hr.done, hr.init⟩
  have hen := fRRecEncode_spec n hnk md hm
  rw [← hn] at hR
  have w1 : IntKind.u32.wrap ((was.seq : Int) + 1) = (n.seq : Nat) := by rw [hn, show (was.seq : Int) + 1 = ((was.seq + 1 : Nat) : Int) by omega, wrapu32, Nat.mod_eq_of_lt (by omega)]
  have hsi : ¬ (was.seq : Int) = 4294967295 := by omega
  have hnf : n.floor = r.floor ∧ n.bytes = r.bytes ∧ n.sum = r.sum ∧ n.done = r.done ∧ n.phase = r.phase ∧ n.init = r.init := by rw [hn]; simp
  obtain ⟨n1, n2, n3, n4, n5, n6⟩ := hnf
  obtain ⟨c, ec, hec⟩ : ∃ c ec, encF n = (c, ec) := ⟨_, _, rfl⟩
  rw [hec] at hen hR
  simp only at hen hR
  obtain ⟨to, htd, hto1⟩ : ∃ to, to = (if e = 15 then 0 else 1 - page) ∧ to ≤ 1 := ⟨_, rfl, by split <;> omega⟩
  rw [← htd] at hR
  have hcl : ec = 0 → c.length = 160 := fun z => encF_len (by rw [hec, z])
  clear hLd h15 hec hn
  simp only [recR, n1, n2, n3, n4, n5, n6] at hen
  rcases hE with hE | hE
  all_goals
    (subst hE
     simp at htd
     have w2 : IntKind.i64.wrap (1 - (page : Int)) = ((1 - page : Nat) : Int) := by rw [show (1 : Int) - page = ((1 - page : Nat) : Int) by omega]; exact wrap64 (by omega) (by omega)
     simp [w2, hsi, w1])
  rw [← htd]
  rotate_left
  rw [show ((9 : Nat), AV.int IntKind.i64 0) = (9, AV.int IntKind.i64 ((to : Nat) : Int)) by rw [htd]; rfl]
  all_goals
    (refine WO_callP [] rfl rfl hen (by simp) (by simp) ?_
     simp
     by_cases hc : ec = 0
     rotate_left
     · rw [if_pos hc] at hR
       rw [hR]
       simp [hc]
       exact fin_W (by simp [svR, recR, rec0, rflP])
     rw [if_neg (fun z => z hc)] at hR
     have hc160 := hcl hc
     have w3 : IntKind.i64.wrap (256 * ((to : Nat) : Int)) = ((256 * to : Nat) : Int) := by rw [show (256 : Int) * to = ((256 * to : Nat) : Int) by omega]; exact wrap64 (by omega) (by omega)
     have hp1 := fRFlProg_spec f hf (256 * to : Nat) (by omega) [0, 0, 0, 0] ⟨false, true, false⟩ (by simp)
     have ho1 := (progF_ok hf (256 * to : Nat) [0, 0, 0, 0]).1
     unfold writeS at hR
     simp only at hR
     obtain ⟨x1, f1, hx1⟩ : ∃ x1 f1, progF f (256 * to : Nat) [0, 0, 0, 0] = (x1, f1) := ⟨_, _, rfl⟩
     rw [hx1] at hp1 ho1 hR
     simp only at hp1 ho1 hR
     have hp2 := fRFlErase_spec f1 ho1 (to : Nat) (by omega)
     have ho2 := (eraseF_ok ho1 (to : Nat)).1
     obtain ⟨x2, f2, hx2⟩ : ∃ x2 f2, eraseF f1 (to : Nat) = (x2, f2) := ⟨_, _, rfl⟩
     rw [hx2] at hp2 ho2 hR
     simp only at hp2 ho2 hR
     have hp3 := fRFlProg_spec f2 ho2 (256 * to : Nat) (by omega) c ⟨false, false, false⟩ (by omega)
     obtain ⟨x3, f3, hx3⟩ : ∃ x3 f3, progF f2 (256 * to : Nat) c = (x3, f3) := ⟨_, _, rfl⟩
     rw [hx3] at hp3 hR
     simp only at hp3 hR
     simp [hc, w3]
     push_cast at hp1 hp3
     refine WO_callF [0, 1, 2] rfl rfl hp1 (by simp [rflP]) (by simp [rflP]) (by simp) ?_
     simp [rflP]
     by_cases g1 : x1 = 0
     rotate_left
     · have hR2 : R = (rec0, x1, f1) := by rw [hR]; simp [g1]
       subst hR2
       simp [g1]
       exact fin_W (by simp [svR, recR, rec0, rflP])
     simp [g1]
     refine WO_callF [0, 1, 2] rfl rfl hp2 (by simp [rflP]) (by simp [rflP]) (by simp) ?_
     simp [rflP]
     by_cases g2 : x2 = 0
     rotate_left
     · have hR2 : R = (rec0, x2, f2) := by rw [hR]; simp [g1, g2]
       subst hR2
       simp [g2]
       exact fin_W (by simp [svR, recR, rec0, rflP])
     simp [g2, w3]
     refine WO_callF [0, 1, 2] rfl (by simp [bv]) hp3 (by simp [rflP]) (by simp [rflP]) (by simp) ?_
     simp [rflP]
     by_cases g3 : x3 = 0
     rotate_left
     · have hR2 : R = (rec0, x3, f3) := by rw [hR]; simp [g1, g2, g3]
       subst hR2
       simp [g3]
       exact fin_W (by simp [svR, recR, rec0, rflP])
     have hR2 : R = (n, 0, f3) := by rw [hR]; simp [g1, g2, g3]
     subst hR2
     simp [g3, hm]
     exact fin_W (by simp [svR, recR, rflP, n1, n2, n3, n4, n5, n6, hm]))
theorem fRSetSame_spec (a b : Rec) (m1 m2 : Md) (h1 : m1.bw = false) (h2 : m2.bw = false) : FSpec Try.prog 50 [.agg (recR a m1), .agg (recR b m2)] [] (.bool (decide (a = b))) [] := by
  have e : decide (a = b) = decide (a.seq = b.seq ∧ a.floor = b.floor ∧ a.bytes = b.bytes ∧ a.sum = b.sum ∧ a.done = b.done ∧ a.phase = b.phase ∧ a.init = b.init) := by
    rw [Bool.eq_iff_iff, decide_eq_true_eq, decide_eq_true_eq]
    constructor
    · rintro rfl; simp
    · rintro ⟨q1, q2, q3, q4, q5, q6, q7⟩; cases a; cases b; simp_all
  rw [e]
  refine FSpec.of_W fRSetSame_low (by simp) ?_
  simp only [initEnv, recR]
  by_cases c1 : a.seq = b.seq
  · by_cases c2 : a.floor = b.floor
    · by_cases c3 : a.bytes = b.bytes
      · by_cases c4 : a.sum = b.sum
        · by_cases c6 : a.done = b.done
          · by_cases c5 : a.phase = b.phase
            · simp [h1, h2, c1, c2, c3, c4, c5, c6]
              exact fin_W (by simp)
            · have c5' : ¬ a.phase.toNat = b.phase.toNat := fun q => c5 (UInt8.toNat_inj.1 q)
              simp [h1, h2, c1, c2, c3, c4, c5, c5', c6]
              exact fin_W (by simp)
          · simp [h1, h2, c1, c2, c3, c4, c6]
            exact fin_W (by simp)
        · simp [h1, h2, c1, c2, c3, c4]
          exact fin_W (by simp)
      · simp [h1, h2, c1, c2, c3]
        exact fin_W (by simp)
    · simp [h1, h2, c1, c2]
      exact fin_W (by simp)
  · simp [h1, h2, c1]
    exact fin_W (by simp)
end Go.Proofs.Ytjehncilahjmdaa
