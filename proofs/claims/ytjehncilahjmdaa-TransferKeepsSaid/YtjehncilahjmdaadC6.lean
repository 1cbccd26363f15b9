/-
  Settings: Save
-/
import Derived.Test.YtjehncilahjmdaadC5
set_option linter.unusedSimpArgs false
set_option linter.unnecessarySimpa false
set_option linter.unusedVariables false
set_option linter.unusedSectionVars false
namespace Go.Proofs.Ytjehncilahjmdaa
open Go Go.Fw
attribute [local simp] bv cleanL_bv toBytes_bv ltL_bv atF_drop WS_at_bytes W_nil W_skip W_seq W_reg W_draw W_drawP W_kill W_keep W_block W_blk W_exit W_ret WX_blk WX_c WX_lp WX_li W_li W_condT W_condF W_cond WC_true WC_false
  WR_nil WR_cons WR_o1 WR_o2 o1_chk o2_chk WR_grd WG_tt WG_ff WG_tf WG_ft WG_none WS_some WS_ok1 WSr_no WSr_some WSr_ok1 WSr_at_bytes WH_some WHA_some chkF_cons chkF_nil chkE_some chkE_ok1 chkE_at evF WO_mv WO_pick WO_bin WO_isNil WO_eqA WO_un WO_convI WO_toStr WO_ofStr WO_build WO_buildF WO_load WO_nilCheck WO_fieldAddr WO_field WO_idxA WO_idxS
  WO_ixA WO_slS WO_slA WO_len WO_lenK WO_appF WO_extract WO_s2a WO_iface WO_min WO_max WO_alloc WO_box WO_buildO WO_store WO_appO WO_copy WO_makeS WO_allocA WO_makeA WO_cvt cvtF_slice WO_look lookF_map alAF mkAF WO_func bind1_v bind2_v bindH_v bindH2_v bindS_v okO_v pickO_t pickO_f
  Env.keep Env.get Env.set Env.del Env.dels Env.setO Env.opd Env.opds Env.opdO Env.parts intF aggF fillA splice cleanL AV.clean bndF fldF_one fldF_many toStrF boxF buildOF
  loadF_rptr loadF_rptrN atF_zero atF_succ blk_cons_zero blk_cons_succ loadF_p loadF_pN atB_some atBN_some retPost resL one
  okc_bool cells_bool notStr_bool okc_int cells_int notStr_int okc_str cells_str notStr_str okc_nil cells_nil notStr_nil okc_ptr cells_ptr notStr_ptr okc_rptr cells_rptr notStr_rptr okc_slice cells_slice notStr_slice 
  okc_list cells_list notStr_list okc_func cells_func notStr_func okc_nilFunc cells_nilFunc notStr_nilFunc okc_iface cells_iface notStr_iface okc_nilIface cells_nilIface notStr_nilIface okc_agg cells_agg notStr_agg 
  okc_tuple cells_tuple notStr_tuple lenF_slice lenF_list lenF_str faF_ptr faF_rptr idxSF_slice idxSF_list idxAF_ptr idxAF_rptr ixAF_many ixAF_one convF_int unF_neg unF_xor unF_not nilF_0nil nilF_0ptr nilF_0rptr nilF_1 
  nilF_2nil nilF_2f nilF_3nil nilF_3f binF_int binF_beq binF_bne binF_sadd binF_seq binF_sne sliceCells_list sliceCells_str sliceCells_slice cutC_some szAV_list szAV_str szAV_slice oneSl_list oneSl_slice slSF_sliceS 
  slSF_sliceN slSF_list slAF_rptr slAF_ptr appFF_list appOF_list appOF_sliceN appOF_sliceS storeF_ptr copyF_slice extF_tuple s2aF_slice s2aF_list nchkF_ptr nchkF_rptr nchkF_f mmF_int ofStrF_str mkSF_int eqAF_agg
attribute [local irreducible] W WX WR WO WS WSr WH WHA WG WC FSpec
attribute [local simp] lendAll
attribute [local congr] W_cg WR_cg WO_cg WS_cg WSr_cg WH_cg WHA_cg WG_cg WC_cg WX_cg
attribute [local simp] Env.has AV.wkr wkrL AV.wkr_refl wkrL_refl AV.ltI ltL leHW hasW Env.lt AV.ids idsL AV.sub subL AV.ren AV.frz frzS frzP frzE frzL Heap.frz Blk.frz Blk.ren renL rnS rnP hasR leR idsL_bv subL_bv
attribute [local simp] cleanL_take cleanL_drop ltL_take ltL_drop idsL_take idsL_drop subL_take subL_drop cleanL_append ltL_append idsL_append subL_append
attribute [local simp] renE mvN mvH
attribute [local simp] fwd backH putL bwd
attribute [local simp] u8i u8e List.idxOf_cons
attribute [local simp] hasRW leRW
attribute [local simp] WS_at_map WSr_at_map loadWP splice_full Int.natCast_inj
def svP (x : Rec × Int) : AV := .tuple [.agg (recP x.1 ⟨false, false, false⟩), .int .i64 x.2]
/-- Words out of memory of one's own. -/
theorem fFlProg_own (f : Fl) (hf : f.Ok) (at_ : Int) (h1 : -2 ^ 63 ≤ at_ ∧ at_ < 2 ^ 63) (d : List UInt8) (hd : d.length < 2 ^ 47) (c : Option Nat) (T : Nat) : FSpec Try.prog 15 [.ptr 0 0, .int .i64 at_, .slice 1 3 0 d.length c] (flP f ++ [some ⟨d.map bv, T, true⟩]) (.int .i64 (progF f at_ d).1) (flP (progF f at_ d).2 ++ [some ⟨d.map bv, T, true⟩]) := by
  have h := fFlProg_spec f hf at_ h1 d ⟨false, decide (c = some d.length), true⟩ hd
  have h2 : FSpec Try.prog 15 [.ptr 0 0, .int .i64 at_, .list 1 ⟨false, decide (c = some d.length), true⟩ (d.map bv)] (flP f ++ [none]) (.int .i64 (progF f at_ d).1) (flP (progF f at_ d).2 ++ [none]) := by
    have := FSpec.frameR (P := Try.prog) (f := 15) (H := flP f ++ [none]) (Hs := flP f) (Hs' := flP (progF f at_ d).2) (r := .int .i64 (progF f at_ d).1) («as» := [.ptr 0 0, .int .i64 at_, .list 1 ⟨false, decide (c = some d.length), true⟩ (d.map bv)]) [0, 1, 2] (by simp) (by simp [flP]) (by simp [flP]) (by simp [flP]) (by simp) (by simpa using h)
    simpa [flP] using this
  have h3 := FSpec.lend (H := flP f ++ [some ⟨d.map bv, T, true⟩]) («as» := [.ptr 0 0, .int .i64 at_, .slice 1 3 0 d.length c]) (id := 3) (b := ⟨d.map bv, T, true⟩) rfl (.inr rfl) (r := .int .i64 (progF f at_ d).1) (H' := flP (progF f at_ d).2 ++ [none]) rfl (by simp [flP]) (by simpa [flP, List.take_of_length_le] using h2)
  simpa [flP] using h3
/-- The heap of the steps that write a record: the flash, its own place, the page. -/
def stH (f : Fl) (to : Nat) : Heap := flP f ++ [some ⟨[.ptr 0 0], 25, true⟩, some ⟨[.int .i64 (to : Nat)], 3, true⟩]
theorem fSetSave1_spec (f : Fl) (hf : f.Ok) (to : Nat) (ht : to ≤ 1) : FSpec Try.prog 59 [.ptr 3 0, .ptr 4 0] (stH f to) (.int .i64 (progF f (256 * to : Nat) [0, 0, 0, 0]).1) (stH (progF f (256 * to : Nat) [0, 0, 0, 0]).2 to) := by
  have e1 : IntKind.i64.wrap ((to : Int) * 256) = ((256 * to : Nat) : Int) := by rw [show (to : Int) * 256 = ((256 * to : Nat) : Int) by omega]; exact wrap64 (by omega) (by omega)
  have hP := fFlProg_own f hf (256 * to : Nat) (by omega) [0, 0, 0, 0] (by simp) (some 4) 5
  generalize progF f _ [0, 0, 0, 0] = x at *
  obtain ⟨e, g⟩ := x
  simp only [Int.natCast_mul, Int.cast_ofNat_Int] at e1 hP
  refine FSpec.of_W fSetSave1_low (by simp) ?_
  simp only [initEnv, stH]
  simp [flP, e1]
  refine WO_callF [0, 1, 2, 5] rfl rfl hP (by simp [flP]) (by simp [flP]) (by simp) ?_
  simp [flP]
  exact fin_W (by simp)
theorem fSetSave2_spec (f : Fl) (hf : f.Ok) (to : Nat) (ht : to ≤ 1) : FSpec Try.prog 60 [.ptr 3 0, .ptr 4 0] (stH f to) (.int .i64 (eraseF f to).1) (stH (eraseF f to).2 to) := by
  have hE := fFlErase_spec f hf to (by omega)
  generalize eraseF f to = x at *
  obtain ⟨e, g⟩ := x
  refine FSpec.of_W fSetSave2_low (by simp) ?_
  simp only [initEnv, stH]
  simp [flP]
  refine WO_callF [0, 1, 2] rfl rfl hE (by simp [flP]) (by simp [flP]) (by simp) ?_
  simp [flP]
  exact fin_W (by simp)
theorem fSetSave3_spec (f : Fl) (hf : f.Ok) (to : Nat) (ht : to ≤ 1) (b : List UInt8) (hb : b.length < 2 ^ 40) : FSpec Try.prog 61 [.ptr 3 0, .ptr 4 0, .ptr 5 0] (stH f to ++ [some ⟨[.list 1 ⟨false, false, false⟩ (b.map bv)], 22, true⟩]) (.int .i64 (progF f (256 * to : Nat) b).1) (stH (progF f (256 * to : Nat) b).2 to ++ [some ⟨[.list 1 ⟨false, false, false⟩ (b.map bv)], 22, true⟩]) := by
  have e1 : IntKind.i64.wrap ((to : Int) * 256) = ((256 * to : Nat) : Int) := by rw [show (to : Int) * 256 = ((256 * to : Nat) : Int) by omega]; exact wrap64 (by omega) (by omega)
  have hP := fFlProg_spec f hf (256 * to : Nat) (by omega) b ⟨false, false, false⟩ (by omega)
  generalize progF f _ b = x at *
  obtain ⟨e, g⟩ := x
  simp only [Int.natCast_mul, Int.cast_ofNat_Int] at e1 hP
  refine FSpec.of_W fSetSave3_low (by simp) ?_
  simp only [initEnv, stH]
  simp [flP, e1]
  refine WO_callF [0, 1, 2] (as' := [.ptr 0 0, .int .i64 (256 * (to : Int)), .list 1 ⟨false, false, false⟩ (b.map bv)]) rfl (by simp) hP (by simp [flP]) (by simp [flP]) (by simp) ?_
  simp [flP]
  exact fin_W (by simp)
/-- A call of a function value over some of the blocks. -/
theorem WO_callvF {P : Program} {L : Nat} {k : List It} {e : Env} {H : Heap} {Q : Post} {p : Pend} {d : Option Nat} {pos : Nat} {ks chk : List Nat} {l : List (DOper × List Nat)} (σ : List Nat) {f : Opd} {g : FuncId} {caps : List AV} {args : List Opd} {«as» as' : List AV} {r : AV} {Hs Hs' : Heap} (h0 : e.opd f = some (.func (.func g) [] caps)) (h1 : e.opds args = some «as») (ho : okFn P g = true) (has : renL (bwd σ) («as» ++ caps) = as') (h2 : FSpec P g as' Hs r Hs') (hn : σ.Nodup ∧ σ.length ≤ Hs'.length ∧ σ.all (fun k => decide (k < H.length)) = true ∧ idsL (fun k => σ.contains k) («as» ++ caps) = true)
    (hR : leR σ H σ Hs) (h3 : chkF chk p (backH σ H Hs')) (h4 : WR P L l p ((e.setO d (r.ren (fwd σ H.length))).dels ks) (backH σ H Hs') k Q) : WO P L (.callv f args) pos chk d ks l p e H k Q := by
  subst has
  exact WO_callv h0 h1 ho (FSpec.frameR σ hn.1 hn.2.1 hn.2.2.1 hR hn.2.2.2 h2) h3 h4
/-- A step of the writing of a record, and what comes behind it. -/
def wrN (x : Int × Fl) (k : Fl → Rec × Int × Fl) : Rec × Int × Fl := if x.1 ≠ 0 then (rec0, x.1, x.2) else k x.2
/-- What is left of the writing of a record before its step i. -/
def wrK (to : Nat) (n : Rec) (c : List UInt8) (i : Nat) (g : Fl) : Rec × Int × Fl :=
  if i = 0 then wrN (progF g (256 * to : Nat) [0, 0, 0, 0]) fun g => wrN (eraseF g to) fun g => wrN (progF g (256 * to : Nat) c) fun g => (n, 0, g)
  else if i = 1 then wrN (eraseF g to) fun g => wrN (progF g (256 * to : Nat) c) fun g => (n, 0, g)
  else if i = 2 then wrN (progF g (256 * to : Nat) c) fun g => (n, 0, g)
  else (n, 0, g)
theorem wrK_eq (to : Nat) (n : Rec) (c : List UInt8) (f : Fl) : (if (writeS f to c).1 ≠ 0 then (rec0, (writeS f to c).1, (writeS f to c).2) else (n, 0, (writeS f to c).2)) = wrK to n c 0 f := by
  rw [show wrK to n c 0 f = wrN (progF f (256 * to : Nat) [0, 0, 0, 0]) (fun g => wrN (eraseF g to) fun g => wrN (progF g (256 * to : Nat) c) fun g => (n, 0, g)) from rfl]
  unfold writeS wrN
  simp only
  by_cases h1 : (progF f (256 * to : Nat) [0, 0, 0, 0]).1 = 0
  · rw [if_neg (not_not_intro h1), if_neg (not_not_intro h1)]
    by_cases h2 : (eraseF (progF f (256 * to : Nat) [0, 0, 0, 0]).2 to).1 = 0
    · rw [if_neg (not_not_intro h2), if_neg (not_not_intro h2)]
    · rw [if_pos h2, if_pos h2, if_pos h2]
  · rw [if_pos h1, if_pos h1, if_pos h1]
theorem wrN_err {x : Int × Fl} {k : Fl → Rec × Int × Fl} (h : x.1 ≠ 0) : wrN x k = (rec0, x.1, x.2) := if_pos h
theorem wrN_ok {x : Int × Fl} {k : Fl → Rec × Int × Fl} (h : x.1 = 0) : wrN x k = k x.2 := if_neg (not_not_intro h)
set_option maxRecDepth 100000 in
theorem fSetSave_spec (f : Fl) (hf : f.Ok) (r : Rec) (hr : r.Ok) (md : Md) (hm : md.bw = false) : FSpec Try.prog 26 [.ptr 0 0, .agg (recP r md)] (flP f) (svP ((saveS f r).1, (saveS f r).2.1)) (flP (saveS f r).2.2) := by
  have hL := fSetLoad_spec f hf
  obtain ⟨hwok, hwp⟩ := loadS_ok f
  have hw0 := loadS_15 f
  obtain ⟨R, hR⟩ : ∃ R, R = saveS f r := ⟨_, rfl⟩
  rw [← hR]
  unfold saveS at hR
  generalize loadS f = L at *
  obtain ⟨w, p, e⟩ := L
  simp only [ldP] at hL hwok hwp hw0 hR
  have hws := hwok.seq
  obtain ⟨n, hn⟩ : ∃ n : Rec, n = { r with seq := w.seq + 1 } := ⟨_, rfl⟩
  rw [← hn] at hR
  refine FSpec.of_W (c := (.seq (.reg fSetSave_r0) (.seq (.reg fSetSave_r1) (.seq (.block 0 (.seq (.reg fSetSave_r2) (.cond (.t 20) fSetSave_k3 fSetSave_k4))) (.keep [2, 3, 4, 6, 7] (.cut (.seq (.reg fSetSave_r8) (.seq (.reg fSetSave_r9) (.seq (.seq (.reg fSetSave_r10) (.cond (.t 43) fSetSave_k5 (.kill [8, 43] .skip))) (.keep [2, 3, 4, 7, 9] (.seq (.reg fSetSave_r12) (.seq (.seq (.reg fSetSave_r13) (.block 1 (.loop fSetSave_l8))) (.keep [3, 4] (.seq (.reg fSetSave_r20) .ret)))))))))))))) fSetSave_low (by simp) ?_
  simp only [initEnv]
  have hrest : ∀ to : Nat, to ≤ 1 → w.seq ≠ 4294967295 → (R = if (encF n).2 ≠ 0 then (rec0, (encF n).2, f) else if (writeS f to (encF n).1).1 ≠ 0 then (rec0, (writeS f to (encF n).1).1, (writeS f to (encF n).1).2) else (n, 0, (writeS f to (encF n).1).2)) →
      W Try.prog 3 [It.c (.seq (.reg fSetSave_r8) (.seq (.reg fSetSave_r9) (.seq (.seq (.reg fSetSave_r10) (.cond (.t 43) fSetSave_k5 (.kill [8, 43] .skip))) (.keep [2, 3, 4, 7, 9] (.seq (.reg fSetSave_r12) (.seq (.seq (.reg fSetSave_r13) (.block 1 (.loop fSetSave_l8))) (.keep [3, 4] (.seq (.reg fSetSave_r20) .ret))))))))]
        [(2, .ptr 3 0), (3, .ptr 4 0), (4, .ptr 5 0), (6, .ptr 6 0), (7, .int .i64 (1 - (to : Int)))]
        (flP f ++ [some ⟨[.ptr 0 0], 25, true⟩, some ⟨recP r md, 42, true⟩, some ⟨recP rec0 ⟨true, true, false⟩, 42, true⟩, some ⟨recP w ⟨false, false, false⟩, 42, true⟩])
        (retPost fSetSave_rs (fin 3 (svP (R.1, R.2.1)) (flP R.2.2))) := by
    intro to hto hws3 hRt
    have e1 : IntKind.u32.wrap ((w.seq : Int) + 1) = ((w.seq + 1 : Nat) : Int) := by rw [show (w.seq : Int) + 1 = ((w.seq + 1 : Nat) : Int) by omega, wrapu32, Nat.mod_eq_of_lt (by omega)]
    have hnok : n.Ok := by rw [hn]; exact ⟨by show w.seq + 1 < 2 ^ 32; omega, hr.floor, hr.bytes, hr.sum, hr.done, hr.init⟩
    have hE := fRecEncode_spec n hnok md hm
    have hlen : ∀ c, encF n = (c, 0) → c.length = 160 := fun c => encF_len
    generalize encF n = E at *
    obtain ⟨c, e'⟩ := E
    simp only at hE hRt
    rw [hn] at hE
    simp only [recP, Int.natCast_add, Int.cast_ofNat_Int] at hE e1 ⊢
    simp [flP, e1]
    refine WO_callP [] rfl rfl hE (by simp) (by simp) ?_
    simp
    refine WC_ndec (fun he => ?_) (fun he => ?_)
    · rw [if_pos he] at hRt
      rw [hRt]
      simp
      exact fin_W (by simp [svP, recP, rec0, flP])
    subst he
    rw [if_neg (by simp)] at hRt
    have hcl := hlen c rfl
    have e2 : IntKind.i64.wrap (1 - (1 - (to : Int))) = (to : Nat) := by rw [show 1 - (1 - (to : Int)) = (to : Nat) by omega]; exact wrap64 (by omega) (by omega)
    simp [e2]
    rw [wrK_eq] at hRt
    refine W_loop (X := {x : Nat × Fl // x.1 ≤ 3 ∧ x.2.Ok ∧ R = wrK to n c x.1 x.2}) (fun x => [(3, .ptr 4 0), (4, .ptr 5 0), (51, .list 1 ⟨false, true, false⟩ [.func (.func 59) [] [.ptr 3 0, .ptr 8 0], .func (.func 60) [] [.ptr 3 0, .ptr 8 0], .func (.func 61) [] [.ptr 3 0, .ptr 8 0, .ptr 7 0]]), (52, .int .i64 3), (53, .int .i64 (x.1.1 : Nat))]) (fun x => flP x.1.2 ++ [some ⟨[.ptr 0 0], 25, true⟩, some ⟨recP n md, 42, true⟩, some ⟨recP rec0 ⟨true, true, false⟩, 42, true⟩, some ⟨recP w ⟨false, false, false⟩, 42, true⟩, some ⟨[.list 1 ⟨false, false, false⟩ (c.map bv)], 22, true⟩, some ⟨[.int .i64 (to : Nat)], 3, true⟩]) (fun x => 3 - x.1.1) ⟨(0, f), by omega, hf, hRt⟩ retPost_le (cut_w (by simp [flP, recP, rec0, hn])) ?_
    rintro ⟨⟨i, g⟩, hi, hg, hK⟩
    simp only at hi hg hK
    rcases (show i = 0 ∨ i = 1 ∨ i = 2 ∨ i = 3 by omega) with rfl | rfl | rfl | rfl
    · obtain ⟨z, hz⟩ : ∃ z, z = progF g (256 * to : Nat) [0, 0, 0, 0] := ⟨_, rfl⟩
      have hS := fSetSave1_spec g hg to hto
      have hK2 : R = wrN z (wrK to n c 1) := by rw [hK, hz]; rfl
      have hzo : z.2.Ok := by rw [hz]; exact (progF_ok hg _ _).1
      rw [← hz] at hS
      clear hz
      obtain ⟨ez, gz⟩ := z
      simp only at hS hzo
      simp only [stH] at hS
      simp [flP]
      refine WO_callvF [0, 1, 2, 3, 8] rfl rfl rfl rfl hS (by simp [flP]) (by simp [flP]) (by simp) ?_
      simp [flP]
      refine WC_ndec (fun he => ?_) (fun he => ?_)
      · rw [wrN_err he] at hK2
        simp
        exact fin_W (by simp [hK2, svP, recP, rec0, flP])
      · rw [wrN_ok he] at hK2
        simp
        exact ⟨⟨(1, gz), by omega, hzo, hK2⟩, by simp, cut_w (by simp [flP, recP]; exact (wrap64 (by decide) (by decide)).symm)⟩
    · obtain ⟨z, hz⟩ : ∃ z, z = eraseF g to := ⟨_, rfl⟩
      have hS := fSetSave2_spec g hg to hto
      have hK2 : R = wrN z (wrK to n c 2) := by rw [hK, hz]; rfl
      have hzo : z.2.Ok := by rw [hz]; exact (eraseF_ok hg _).1
      rw [← hz] at hS
      clear hz
      obtain ⟨ez, gz⟩ := z
      simp only at hS hzo
      simp only [stH] at hS
      simp [flP]
      refine WO_callvF [0, 1, 2, 3, 8] rfl rfl rfl rfl hS (by simp [flP]) (by simp [flP]) (by simp) ?_
      simp [flP]
      refine WC_ndec (fun he => ?_) (fun he => ?_)
      · rw [wrN_err he] at hK2
        simp
        exact fin_W (by simp [hK2, svP, recP, rec0, flP])
      · rw [wrN_ok he] at hK2
        simp
        exact ⟨⟨(2, gz), by omega, hzo, hK2⟩, by simp, cut_w (by simp [flP, recP]; exact (wrap64 (by decide) (by decide)).symm)⟩
    · obtain ⟨z, hz⟩ : ∃ z, z = progF g (256 * to : Nat) c := ⟨_, rfl⟩
      have hS := fSetSave3_spec g hg to hto c (by omega)
      have hK2 : R = wrN z (wrK to n c 3) := by rw [hK, hz]; rfl
      have hzo : z.2.Ok := by rw [hz]; exact (progF_ok hg _ _).1
      rw [← hz] at hS
      clear hz
      obtain ⟨ez, gz⟩ := z
      simp only at hS hzo
      simp only [stH] at hS
      simp [flP]
      refine WO_callvF [0, 1, 2, 3, 8, 7] rfl rfl rfl rfl hS (by simp [flP]) (by simp [flP]) (by simp) ?_
      simp [flP]
      refine WC_ndec (fun he => ?_) (fun he => ?_)
      · rw [wrN_err he] at hK2
        simp
        exact fin_W (by simp [hK2, svP, recP, rec0, flP])
      · rw [wrN_ok he] at hK2
        simp
        exact ⟨⟨(3, gz), by omega, hzo, hK2⟩, by simp, cut_w (by simp [flP, recP]; exact (wrap64 (by decide) (by decide)).symm)⟩
    · have hK2 : R = (n, 0, g) := hK
      simp [flP, recP, hm]
      exact fin_W (by simp [hK2, svP, recP, rec0, flP, hm])
  simp only [recP] at hL ⊢
  simp [hm, flP]
  refine WO_callF [0, 1, 2] rfl rfl hL (by simp [flP]) (by simp [flP]) (by simp) ?_
  simp [flP]
  by_cases c1 : e = 15
  · subst c1
    rw [if_neg (by simp), if_neg (by simp)] at hR
    simp only [if_true] at hR
    have hw15 : w.seq ≠ 4294967295 := by rw [hw0 rfl]; decide
    simp
    exact W_cut (cut_w (by simp [recP, rec0, flP])) (hrest 0 (by omega) hw15 hR)
  · by_cases c2 : e = 0
    · subst c2
      rw [if_neg (by simp)] at hR
      by_cases c3 : w.seq = 4294967295
      · rw [if_pos ⟨rfl, c3⟩] at hR
        rw [hR]
        simp [c3]
        exact fin_W (by simp [svP, recP, rec0, flP])
      · rw [if_neg (fun h => c3 h.2)] at hR
        rw [if_neg (show ¬ (0 : Int) = 15 by decide)] at hR
        have c3' : ¬ (w.seq : Int) = 4294967295 := by omega
        simp [c3, c3']
        exact W_cut (cut_w (by simp [recP, rec0, flP]; omega)) (hrest (1 - p) (by omega) c3 hR)
    · rw [if_pos ⟨c2, c1⟩] at hR
      rw [hR]
      simp [c1, c2]
      exact fin_W (by simp [svP, recP, rec0, flP])
end Go.Proofs.Ytjehncilahjmdaa
