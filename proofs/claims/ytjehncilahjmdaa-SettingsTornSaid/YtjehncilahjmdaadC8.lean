/-
  Settings: the power goes
-/
import Derived.Test.YtjehncilahjmdaaR5
import Derived.Test.YtjehncilahjmdaadC7
set_option linter.unusedSimpArgs false
set_option linter.unnecessarySimpa false
set_option linter.unusedVariables false
set_option linter.unusedSectionVars false
namespace Go.Proofs.Ytjehncilahjmdaa
open Go Go.Fw
attribute [local simp] bv cleanL_bv toBytes_bv ltL_bv atF_drop WS_at_bytes W_nil W_skip W_seq W_reg W_draw W_drawP W_kill W_keep W_block W_blk W_exit W_ret WX_blk WX_c WX_lp WX_li W_li W_condT W_condF W_cond WC_true WC_false
  WR_nil WR_cons WR_o1 WR_o2 o1_chk o2_chk WR_grd WG_tt WG_ff WG_tf WG_ft WG_none WS_some WS_ok1 WSr_no WSr_some WSr_ok1 WSr_at_bytes WH_some WHA_some chkF_cons chkF_nil chkE_some chkE_ok1 chkE_at evF WO_mv WO_pick WO_bin WO_isNil WO_eqA WO_un WO_convI WO_toStr WO_ofStr WO_build WO_buildF WO_load WO_nilCheck WO_fieldAddr WO_field WO_idxA WO_idxS
  WO_ixA WO_slS WO_slA WO_len WO_lenK WO_appF WO_extract WO_s2a WO_iface WO_min WO_max WO_alloc WO_box WO_buildO WO_store WO_appO WO_copy WO_makeS WO_allocA WO_makeA WO_cvt cvtF_slice WO_look lookF_map alAF mkAF WO_func bind1_v bind2_v bindH_v bindH2_v bindS_v okO_v pickO_t pickO_f
  Env.keep Env.get Env.set Env.del Env.dels Env.setO Env.opd Env.opds Env.opdO Env.parts intF aggF fillA splice cleanL AV.clean bndF fldF_one fldF_many toStrF boxF buildOF
  loadF_rptr loadF_rptrN atF_zero atF_succ blk_cons_zero blk_cons_succ loadF_p loadF_pN atB_some atBN_some retPost resL one
  okc_bool cells_bool notStr_bool okc_int cells_int notStr_int okc_str cells_str notStr_str okc_nil cells_nil notStr_nil okc_ptr cells_ptr notStr_ptr okc_rptr cells_rptr notStr_rptr okc_slice cells_slice notStr_slice 
  okc_list cells_list notStr_list okc_func cells_func notStr_func okc_nilFunc cells_nilFunc notStr_nilFunc okc_iface cells_iface notStr_iface okc_nilIface cells_nilIface notStr_nilIface okc_agg cells_agg notStr_agg 
  okc_tuple cells_tuple notStr_tuple lenF_slice lenF_list lenF_str faF_ptr faF_rptr idxSF_slice idxSF_list idxAF_ptr idxAF_rptr ixAF_many ixAF_one convF_int unF_neg unF_xor unF_not nilF_0nil nilF_0ptr nilF_0rptr nilF_1 
  nilF_2nil nilF_2f nilF_3nil nilF_3f binF_int binF_beq binF_bne binF_sadd binF_seq binF_sne sliceCells_list sliceCells_str sliceCells_slice cutC_some szAV_list szAV_str szAV_slice oneSl_list oneSl_slice slSF_sliceS 
  slSF_sliceN slSF_list slAF_rptr slAF_ptr appFF_list appOF_list appOF_sliceN appOF_sliceS storeF_ptr copyF_slice extF_tuple s2aF_slice s2aF_list nchkF_ptr nchkF_rptr nchkF_f mmF_int ofStrF_str mkSF_int eqAF_agg
attribute [local irreducible] W WX WR WO WS WSr WH WHA WG WC FSpec
attribute [local simp] lendAll
attribute [local congr] W_cg WR_cg WO_cg WS_cg WSr_cg WH_cg WHA_cg WG_cg WC_cg WX_cg
attribute [local simp] Env.has AV.wkr wkrL AV.wkr_refl wkrL_refl AV.ltI ltL leHW hasW Env.lt AV.ids idsL AV.sub subL AV.ren AV.frz frzS frzP frzE frzL Heap.frz Blk.frz Blk.ren renL rnS rnP hasR leR idsL_bv subL_bv
attribute [local simp] cleanL_take cleanL_drop ltL_take ltL_drop idsL_take idsL_drop subL_take subL_drop cleanL_append ltL_append idsL_append subL_append
attribute [local simp] renE mvN mvH
attribute [local simp] fwd backH putL bwd
attribute [local simp] u8i u8e List.idxOf_cons
attribute [local simp] hasRW leRW
attribute [local simp] WS_at_map WSr_at_map loadWP splice_full Int.natCast_inj
theorem start_dec : (saveS (newF 2) rec0).2.1 = 0 ∧ (saveS (newF 2) rec0).2.2.lo = 0 ∧ (saveS (newF 2) rec0).2.2.hi = 0 ∧ (saveS (newF 2) rec0).2.2.b.length = 512 ∧ (saveS (newF 2) rec0).2.2.worn.length = 2 ∧ (saveS (newF 2) rec0).2.2.off = false ∧ (saveS (newF 2) rec0).2.2.armed = false ∧ (saveS (newF 2) rec0).1.seq = 1 ∧ parseR ((pg (saveS (newF 2) rec0).2.2.b 0).take 160) = ((saveS (newF 2) rec0).1, 0) ∧ (parseR (byL 4 markN ++ ((pg (saveS (newF 2) rec0).2.2.b 1).take 160).drop 4)).2 ≠ 0 := by decide +kernel
theorem start_tn (t : Nat) : Tn t 0 (saveS (newF 2) rec0).2.2 (saveS (newF 2) rec0).1 := by
  obtain ⟨_, h1, h2, h3, h4, h5, h6, h7, h8, h9⟩ := start_dec
  exact ⟨⟨h1, h2, h3, h4⟩, (saveS_ok (newF_ok (by decide)) rec0).1, h5, h6, by rw [h7]; decide, 0, by decide, h8, pg_len h3 (by decide), .inl (not_harm h9)⟩
def recE (r : Rec) : List AV := recP r ⟨false, false, false⟩
/-- A record that comes, of any length. -/
structure RecFit (r : Rec) : Prop where
  seq : r.seq < 2 ^ 32
  floor : r.floor < 2 ^ 32
  bytes : r.bytes < 2 ^ 32
  sum : r.sum < 2 ^ 32
  done : r.done < 2 ^ 32
  init : r.init.length < 2 ^ 47
theorem recs_len (l : List Rec) : (l.flatMap recE).length = 7 * l.length := by
  induction l with
  | nil => rfl
  | cons r l ih => simp only [List.flatMap_cons, List.length_append, ih, List.length_cons]; show 7 + _ = _; omega
theorem recs_get : ∀ (l : List Rec) (i : Nat) (h : i < l.length), (l.flatMap recE).drop (7 * i) = recE l[i] ++ (l.flatMap recE).drop (7 * i + 7)
  | r :: l, 0, _ => by simp only [List.flatMap_cons, Nat.mul_zero, List.drop_zero, List.getElem_cons_zero]; rfl
  | r :: l, i + 1, h => by
    have := recs_get l i (by simpa using h)
    simp only [List.flatMap_cons, List.getElem_cons_succ]
    have e : ∀ k, (recE r ++ l.flatMap recE).drop (7 + k) = (l.flatMap recE).drop k := fun k => by
      rw [show 7 = (recE r).length from rfl, List.drop_length_add_append]
    rw [show 7 * (i + 1) = 7 + 7 * i by omega, e, this, show 7 + 7 * i + 7 = 7 + (7 * i + 7) by omega, e]
theorem recs_lt (n : Nat) (l : List Rec) : ltL n (l.flatMap recE) = true := by
  induction l with
  | nil => rfl
  | cons r l ih => simp only [List.flatMap_cons, recE, recP, List.cons_append, ltL, ih, List.nil_append]; simp [AV.ltI, bv]
theorem recs_ids (q : Nat → Bool) (l : List Rec) : idsL q (l.flatMap recE) = true := by
  induction l with
  | nil => rfl
  | cons r l ih => simp only [List.flatMap_cons, recE, recP, List.cons_append, idsL, ih, List.nil_append]; simp [AV.ids, bv]
theorem recs_sub (s : Nat → Nat → Nat → Nat → Option Nat → AV) (p : Nat → Nat → AV) (l : List Rec) : subL s p (l.flatMap recE) = l.flatMap recE := by
  induction l with
  | nil => rfl
  | cons r l ih => simp only [List.flatMap_cons, recE, recP, List.cons_append, subL, ih, List.nil_append]; simp [AV.sub, bv]
set_option maxRecDepth 100000 in
theorem fSetTorn_spec (l : List Rec) (hl : ∀ r ∈ l, RecFit r) (st : List Int) (t : Nat) (ht : t < 2 ^ 32) (m1 m2 : Md) (hl2 : l.length < 2 ^ 47) (hs2 : st.length < 2 ^ 47) : FSpec Try.prog 7 [.list 7 m1 (l.flatMap recE), .list 1 m2 (st.map iv), .int .u32 (t : Nat)] [] (.bool true) [] := by
  have hN := fFlNew_spec 2 (by decide) (by decide)
  have hS := fSetSave_spec _ (newF_ok (n := 2) (by decide)) rec0 rec0_ok ⟨true, true, false⟩ rfl
  have h0 := start_tn t
  have h1 := start_dec.1
  generalize saveS (newF 2) rec0 = s at *
  generalize newF 2 = g at *
  obtain ⟨r0, e0, f0⟩ := s
  simp only at h0 h1
  subst h1
  simp only [recP, rec0, svP, List.map_nil] at hS
  refine FSpec.of_W fSetTorn_low (by simp) ?_
  simp only [initEnv]
  simp
  obtain ⟨C, hC⟩ : ∃ C, C = l.flatMap recE := ⟨_, rfl⟩
  have hCl : C.length = 7 * l.length := by rw [hC]; exact recs_len l
  have hCi : ∀ i (h : i < l.length), C.drop (7 * i) = recE l[i] ++ C.drop (7 * i + 7) := by rw [hC]; exact recs_get l
  have hC1 : ∀ n, ltL n C = true := by rw [hC]; exact fun n => recs_lt n l
  have hC2 : ∀ q, idsL q C = true := by rw [hC]; exact fun q => recs_ids q l
  have hC3 : ∀ s p, subL s p C = C := by rw [hC]; exact fun s p => recs_sub s p l
  rw [← hC]
  have e7 : ((7 * l.length : Nat) : Int) / 7 = l.length := by omega
  refine WO_call rfl fSetLives_spec (by simp) ?_
  simp [hCl]
  refine WC_dec (fun hc => ?_) (fun hc => ?_)
  · simp
    refine WO_call rfl fSetLives_spec (by simp) ?_
    simp
    exact fin_W (by simp)
  have hc12 : l.length ≤ 12 := by omega
  simp
  refine WO_call rfl hN (by simp) ?_
  simp
  refine WO_call rfl hS (by simp) ?_
  simp [flP, hCl]
  refine W_loop (X := {x : Nat × Fl × Rec // x.1 ≤ l.length ∧ Tn t x.1 x.2.1 x.2.2}) (fun x => [(1, .list 1 m2 (st.map iv)), (2, .int .u32 (t : Nat)), (7, .ptr 0 0), (9, .ptr 3 0), (39, .list 7 m1 C), (40, .int .i64 (l.length : Nat)), (41, .int .i64 (x.1.1 : Nat))]) (fun x => flP x.1.2.1 ++ [some ⟨recP x.1.2.2 ⟨false, false, false⟩, 42, true⟩]) (fun x => l.length - x.1.1) ⟨(0, f0, r0), by omega, h0⟩ retPost_le (cut_w (by simp [flP, recP, hC1])) ?_
  rintro ⟨⟨i, f, last⟩, hi, hT⟩
  simp only at hi hT
  simp [flP]
  refine WC_dec (fun hlt => ?_) (fun hlt => ?_)
  · have hil : i < l.length := by omega
    have hx := hCi i hil
    have hr := hl _ (List.getElem_mem hil)
    obtain ⟨r, hre⟩ : ∃ r, r = l[i] := ⟨_, rfl⟩
    rw [← hre] at hx hr
    have e1 : IntKind.i64.wrap ((i : Int) + 1) = (i : Int) + 1 := wrap64s (by omega) (by omega)
    have hx7 : (C.drop (i * 7)).take 7 = recP r ⟨false, false, false⟩ := by rw [Nat.mul_comm, hx]; rfl
    simp [hCl, hx7, cleanL_recP]
    refine ⟨by omega, by omega, ?_⟩
    simp [recP]
    refine WC_dec (fun h200 => ?_) (fun h200 => ?_)
    · simp
      exact fin_W (by simp)
    have hrok : r.Ok := ⟨hr.seq, hr.floor, hr.bytes, hr.sum, hr.done, by omega⟩
    simp
    obtain ⟨v, hv⟩ : ∃ v, v = st.getD i 0 := ⟨_, rfl⟩
    obtain ⟨N, hNw⟩ : ∃ N : Nat, IntKind.u64.wrap v = N := ⟨(v % 2 ^ 64).toNat, by unfold IntKind.wrap; simp [IntKind.signed, IntKind.bits]; omega⟩
    obtain ⟨k, hk⟩ : ∃ k, k = N % 60 := ⟨_, rfl⟩
    have ek1 : ((N : Int)).tmod 60 = (k : Nat) := by rw [hk]; rfl
    have ek2 : IntKind.i64.wrap (k : Nat) = (k : Int) := wrap64 (by omega) (by omega)
    have ei1 : IntKind.u32.wrap (i : Int) = (i : Int) := by rw [wrapu32, Nat.mod_eq_of_lt (by omega)]
    have ei2 : IntKind.u32.wrap ((i : Int) * 2654435769) = (kkN i : Nat) := by rw [show (i : Int) * 2654435769 = ((i * 2654435769 : Nat) : Int) by omega, wrapu32]; rfl
    have hkk : kkN i < 2 ^ 32 := Nat.mod_lt _ (by decide)
    have ei3 : bitI .xor .u32 (t : Nat) (kkN i : Nat) = (tkN t i : Nat) := bitI_xor rfl ht hkk
    have htk : tkN t i < 2 ^ 32 := Nat.xor_lt_two_pow ht hkk
    obtain ⟨y, hy⟩ : ∃ y, y = tkN t i := ⟨_, rfl⟩
    rw [← hy] at ei3 htk
    obtain ⟨g, hg⟩ : ∃ g, g = if i < st.length then (failF f (k : Nat) y).2 else f := ⟨_, rfl⟩
    have hgs : g = f ∨ ∃ k : Int, 0 ≤ k ∧ k < 2 ^ 63 ∧ g = (failF f k (tkN t i)).2 := by
      rw [hg, ← hy]
      split
      · exact .inr ⟨(k : Nat), by omega, by omega, rfl⟩
      · exact .inl rfl
    refine WC_joinQ [(1, .list 1 m2 (st.map iv)), (2, .int .u32 (t : Nat)), (7, .ptr 0 0), (9, .ptr 3 0), (12, .ptr 4 0), (39, .list 7 m1 C), (40, .int .i64 (l.length : Nat)), (41, .int .i64 (i : Nat))] (flP g ++ [some ⟨recP last ⟨false, false, false⟩, 42, true⟩, some ⟨recP r ⟨false, false, false⟩, 42, true⟩]) ?_ (fun k' hW => ?_)
    · have hgok : g.Ok := by
        rcases hgs with rfl | ⟨k, _, k2, rfl⟩
        · exact hT.ok
        · exact failF_ok hT.ok k2 (by rw [← hy]; exact htk)
      obtain ⟨hA, hB⟩ := hT.step (by omega) hrok hgs ht
      have hSv := fSetSave_spec g hgok r hrok ⟨false, false, false⟩ rfl
      have hgok2 := (saveS_ok hgok r).1
      have hRt := fRecRight_spec r hrok ⟨false, false, false⟩ rfl
      have hsq := hT.seq
      have ew : IntKind.u32.wrap ((last.seq : Int) + 1) = (last.seq : Int) + 1 := by rw [show (last.seq : Int) + 1 = ((last.seq + 1 : Nat) : Int) by omega, wrapu32, Nat.mod_eq_of_lt (by omega)]
      obtain ⟨w, hw⟩ : ∃ w : Rec, w = { r with seq := last.seq + 1 } := ⟨_, rfl⟩
      rw [← hw] at hB
      generalize saveS g r = sv at *
      obtain ⟨s, e, g2⟩ := sv
      simp only [recP, svP] at hSv hRt hgok2 hA hB ⊢
      simp [flP]
      refine WO_callF [0, 1, 2] rfl (by simp [bv]) hSv (by simp [flP]) (by simp [flP]) (by simp) ?_
      simp [flP]
      refine WO_callP [] rfl rfl hRt (by simp) (by simp) ?_
      simp
      cases hrr : r.right with
      | false =>
        obtain ⟨hA1, hA2⟩ := hA hrr
        cases hA1
        have hPw := fFlPower_spec g
        generalize powerF g = h at *
        simp
        refine WO_callF [0, 1, 2] rfl rfl hPw (by simp [flP]) (by simp [flP]) (by simp) ?_
        simp [flP]
        refine ⟨⟨(i + 1, h, last), by omega, hA2⟩, by simp; omega, ?_⟩
        refine cut_rw [0, 1, 2, 3] (by simp) rfl (by simp [e1, hC1, hC2, hC3]) ?_
        simp [flP, recP]
      | true =>
        obtain ⟨got, ⟨p, hld⟩, hT2, hcase⟩ := hB hrr
        have hPw := fFlPower_spec g2
        have hLd := fSetLoad_spec _ hT2.ok
        rw [hld] at hLd
        clear hld
        generalize powerF g2 = h at *
        simp only [ldP, recP] at hLd
        simp [ew]
        refine WO_callF [0, 1, 2] rfl rfl hPw (by simp [flP]) (by simp [flP]) (by simp) ?_
        simp [flP]
        refine WO_callF [0, 1, 2] rfl rfl hLd (by simp [flP]) (by simp [flP]) (by simp) ?_
        simp [flP]
        have hwlast : w ≠ last := fun q => by have := congrArg Rec.seq q; rw [hw] at this; simp at this
        have hS1 := fRecSame_spec w w ⟨false, false, false⟩ ⟨false, false, false⟩ rfl rfl
        have hS2 := fRecSame_spec last last ⟨false, false, false⟩ ⟨false, false, false⟩ rfl rfl
        have hS3 := fRecSame_spec w last ⟨false, false, false⟩ ⟨false, false, false⟩ rfl rfl
        rw [decide_eq_true rfl] at hS1 hS2
        rw [decide_eq_false hwlast] at hS3
        clear hwlast
        rcases hcase with ⟨rfl, hs, hgot⟩ | ⟨rfl, hgot⟩
        · subst hs hgot hw
          simp only [recP, Int.natCast_add, Int.cast_ofNat_Int] at hS1
          simp
          refine WO_callP [] rfl rfl hS1 (by simp) (by simp) ?_
          simp
          refine WO_callP [] rfl rfl hS1 (by simp) (by simp) ?_
          simp
          refine ⟨⟨(i + 1, h, _), by omega, hT2⟩, by simp; omega, ?_⟩
          refine cut_rw [0, 1, 2, 3] (by simp) rfl (by simp [e1, hC1, hC2, hC3]) ?_
          simp [flP, recP]
        · rcases hgot with hgot | hgot
          · subst hgot hw
            simp only [recP] at hS2
            simp
            refine WO_callP [] rfl rfl hS2 (by simp) (by simp) ?_
            simp
            refine ⟨⟨(i + 1, h, _), by omega, hT2⟩, by simp; omega, ?_⟩
            refine cut_rw [0, 1, 2, 3] (by simp) rfl (by simp [e1, hC1, hC2, hC3]) ?_
            simp [flP, recP]
          · subst hgot hw
            simp only [recP, Int.natCast_add, Int.cast_ofNat_Int] at hS1 hS3
            simp
            refine WO_callP [] rfl rfl hS3 (by simp) (by simp) ?_
            simp
            refine WO_callP [] rfl rfl hS1 (by simp) (by simp) ?_
            simp
            refine ⟨⟨(i + 1, h, _), by omega, hT2⟩, by simp; omega, ?_⟩
            refine cut_rw [0, 1, 2, 3] (by simp) rfl (by simp [e1, hC1, hC2, hC3]) ?_
            simp [flP, recP]
    · refine WC_dec (fun hst => ?_) (fun hst => ?_)
      · have hsl : i < st.length := by omega
        rw [if_pos hsl] at hg
        have hvi : st[i]? = some v := by rw [hv, List.getD_eq_getElem?_getD, List.getElem?_eq_getElem hsl]; rfl
        have hF := fFlFail_spec f (k : Nat) y
        generalize failF f (k : Nat) y = F at *
        obtain ⟨eF, g'⟩ := F
        simp only at hg hF
        subst hg
        generalize kkN i = kk at *
        simp only [flP, recP, List.cons_append, List.nil_append] at hW
        simp [hvi, iv, hNw, ek1, ek2, ei1, ei2, ei3]
        repeat (refine ⟨by omega, ?_⟩)
        refine WO_callF [0, 1, 2] rfl rfl hF (by simp [flP]) (by simp [flP]) (by simp) ?_
        simp [flP]
        exact hW
      · rw [if_neg (by omega)] at hg
        subst hg
        simp only [flP, recP, List.cons_append, List.nil_append] at hW
        simp
        exact hW
  · simp
    exact fin_W (by simp)
set_option maxRecDepth 100000 in
theorem fit_recE {n : Nat} {y : List AV} (h : Fit Try.prog (n + 3) 42 y) : ∃ x : { x : Md × Rec // x.1.bw = false ∧ RecFit x.2 }, y = recP x.1.2 x.1.1 := by
  obtain ⟨a1, b1, rfl, h1, a2, b2, rfl, h2, a3, b3, rfl, h3, a4, b4, rfl, h4, a5, b5, rfl, h5, a6, b6, rfl, h6, a7, b7, rfl, h7, rfl⟩ := fit_struct Try.underlying42 h
  obtain ⟨n1, p1, q1, rfl⟩ := fit_int Try.underlying23 h1
  obtain ⟨n2, p2, q2, rfl⟩ := fit_int Try.underlying23 h2
  obtain ⟨n3, p3, q3, rfl⟩ := fit_int Try.underlying23 h3
  obtain ⟨n4, p4, q4, rfl⟩ := fit_int Try.underlying23 h4
  obtain ⟨u, rfl⟩ := fit_u8 Try.underlying5 h5
  obtain ⟨n6, p6, q6, rfl⟩ := fit_int Try.underlying23 h6
  obtain ⟨z, rfl⟩ := fit_one (by rw [Try.underlying22]) h7
  obtain ⟨nl, full, l, rfl, hl⟩ := fit_bytes Try.underlying22 Try.underlying5 (by kernel_rfl) (by kernel_rfl) h7
  have hu : IntKind.u32.min = 0 ∧ IntKind.u32.max = 4294967295 := ⟨rfl, rfl⟩
  rw [hu.1] at p1 p2 p3 p4 p6
  rw [hu.2] at q1 q2 q3 q4 q6
  refine ⟨⟨(⟨nl, full, false⟩, ⟨n1.toNat, n2.toNat, n3.toNat, n4.toNat, u, n6.toNat, l⟩), rfl, ⟨by show n1.toNat < _; omega, by show n2.toNat < _; omega, by show n3.toNat < _; omega, by show n4.toNat < _; omega, by show n6.toNat < _; omega, by show l.length < _; omega⟩⟩, ?_⟩
  simp only [recP, List.cons_append, List.nil_append, List.append_nil]
  rw [Int.toNat_of_nonneg p1, Int.toNat_of_nonneg p2, Int.toNat_of_nonneg p3, Int.toNat_of_nonneg p4, Int.toNat_of_nonneg p6]
theorem wk_recs (l : List { x : Md × Rec // x.1.bw = false ∧ RecFit x.2 }) : wkrL (l.flatMap fun x => recP x.1.2 x.1.1) ((l.map fun x => x.1.2).flatMap recE) := by
  induction l with
  | nil => rfl
  | cons x l ih =>
    obtain ⟨⟨⟨a, b, c⟩, r⟩, h, _⟩ := x
    simp only at h
    subst h
    simpa [recE, recP] using ih
theorem flat_iv (st : List Int) : st.flatMap (fun x : Int => [iv x]) = st.map iv := by
  induction st with
  | nil => rfl
  | cons x st ih => rw [List.flatMap_cons, ih]; rfl
set_option maxRecDepth 100000 in
theorem fSettingsTorn_law : ∀ args, AllFit Try.prog 8 Try.f7.params.toList args → FSpec Try.prog 7 args [] (.bool true) [] := by
  intro args has
  rw [show Try.f7.params.toList = [59, 38, 23] from by rw [Try.params7]] at has
  obtain ⟨a, as1, rfl, h1, has⟩ := all_cons has
  obtain ⟨b, as2, rfl, h2, has⟩ := all_cons has
  obtain ⟨c, as3, rfl, h3, has⟩ := all_cons has
  cases all_nil has
  obtain ⟨nl, full, l, rfl, hl⟩ := arg_slice (fun x : { x : Md × Rec // x.1.bw = false ∧ RecFit x.2 } => recP x.1.2 x.1.1) Try.underlying59 (fun y hy => fit_recE hy) h1
  obtain ⟨nl2, full2, st, rfl, hl2⟩ := arg_slice (fun x : Int => [iv x]) Try.underlying38 (fun y hy => by
    obtain ⟨n, _, _, rfl⟩ := fit_int Try.underlying3 hy; exact ⟨n, rfl⟩) h2
  obtain ⟨n, p1, p2, rfl⟩ := arg_int Try.underlying23 h3
  rw [show IntKind.u32.min = 0 from rfl] at p1
  rw [show IntKind.u32.max = 4294967295 from rfl] at p2
  obtain ⟨t, rfl⟩ : ∃ t : Nat, n = t := ⟨n.toNat, by omega⟩
  rw [show Try.prog.bytesOf 42 = 48 by kernel_rfl] at hl
  rw [show Try.prog.bytesOf 3 = 8 by kernel_rfl] at hl2
  rw [show Try.prog.cellsOf 42 = 7 by kernel_rfl, show Try.prog.cellsOf 3 = 1 by kernel_rfl]
  rw [flat_iv]
  refine FSpec.wk ?_ (fSetTorn_spec (l.map fun x => x.1.2) (fun r hr => ?_) st t (by omega) ⟨nl, full, false⟩ ⟨nl2, full2, false⟩ (by rw [List.length_map]; omega) (by omega))
  · simp [wk_recs]
  · obtain ⟨x, _, rfl⟩ := List.mem_map.1 hr
    exact x.2.2
end Go.Proofs.Ytjehncilahjmdaa
