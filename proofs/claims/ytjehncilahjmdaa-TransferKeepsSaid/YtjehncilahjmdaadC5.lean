/-
  Settings: read.
-/
import Derived.Test.YtjehncilahjmdaaR2
import Derived.Test.YtjehncilahjmdaadKS
set_option linter.unusedSimpArgs false
set_option linter.unnecessarySimpa false
set_option linter.unusedVariables false
set_option linter.unusedSectionVars false
namespace Go.Proofs.Ytjehncilahjmdaa
open Go Go.Fw
attribute [local simp] bv cleanL_bv toBytes_bv ltL_bv atF_drop WS_at_bytes W_nil W_skip W_seq W_reg W_draw W_drawP W_kill W_keep W_block W_blk W_exit W_ret WX_blk WX_c WX_lp WX_li W_li W_condT W_condF W_cond WC_true WC_false
  WR_nil WR_cons WR_o1 WR_o2 o1_chk o2_chk WR_grd WG_tt WG_ff WG_tf WG_ft WG_none WS_some WS_ok1 WSr_no WSr_some WSr_ok1 WSr_at_bytes WH_some WHA_some chkF_cons chkF_nil chkE_some chkE_ok1 chkE_at evF WO_mv WO_pick WO_bin WO_isNil WO_eqA WO_un WO_convI WO_toStr WO_ofStr WO_build WO_buildF WO_load WO_nilCheck WO_fieldAddr WO_field WO_idxA WO_idxS
  WO_ixA WO_slS WO_slA WO_len WO_lenK WO_appF WO_extract WO_s2a WO_iface WO_min WO_max WO_alloc WO_box WO_buildO WO_store WO_appO WO_copy WO_makeS WO_allocA WO_makeA WO_cvt cvtF_slice WO_look lookF_map alAF mkAF WO_func bind1_v bind2_v bindH_v bindH2_v bindS_v okO_v pickO_t pickO_f
  Env.keep Env.get Env.set Env.del Env.dels Env.setO Env.opd Env.opds Env.opdO Env.parts intF aggF fillA splice cleanL AV.clean bndF fldF_one fldF_many toStrF boxF buildOF
  loadF_rptr loadF_rptrN atF_zero atF_succ blk_cons_zero blk_cons_succ loadF_p loadF_pN atB_some atBN_some retPost resL one
  okc_bool cells_bool notStr_bool okc_int cells_int notStr_int okc_str cells_str notStr_str okc_nil cells_nil notStr_nil okc_ptr cells_ptr notStr_ptr okc_rptr cells_rptr notStr_rptr okc_slice cells_slice notStr_slice 
  okc_list cells_list notStr_list okc_func cells_func notStr_func okc_nilFunc cells_nilFunc notStr_nilFunc okc_iface cells_iface notStr_iface okc_nilIface cells_nilIface notStr_nilIface okc_agg cells_agg notStr_agg 
  okc_tuple cells_tuple notStr_tuple lenF_slice lenF_list lenF_str faF_ptr faF_rptr idxSF_slice idxSF_list idxAF_ptr idxAF_rptr ixAF_many ixAF_one convF_int unF_neg unF_xor unF_not nilF_0nil nilF_0ptr nilF_0rptr nilF_1 
  nilF_2nil nilF_2f nilF_3nil nilF_3f binF_int binF_beq binF_bne binF_sadd binF_seq binF_sne sliceCells_list sliceCells_str sliceCells_slice cutC_some szAV_list szAV_str szAV_slice oneSl_list oneSl_slice slSF_sliceS 
  slSF_sliceN slSF_list slAF_rptr slAF_ptr appFF_list appOF_list appOF_sliceN appOF_sliceS storeF_ptr copyF_slice extF_tuple s2aF_slice s2aF_list nchkF_ptr nchkF_rptr nchkF_f mmF_int ofStrF_str mkSF_int eqAF_agg
attribute [local irreducible] W WX WR WO WS WSr WH WHA WG WC FSpec
attribute [local simp] lendAll
attribute [local congr] W_cg WR_cg WO_cg WS_cg WSr_cg WH_cg WHA_cg WG_cg WC_cg WX_cg
attribute [local simp] Env.has AV.wkr wkrL AV.wkr_refl wkrL_refl AV.ltI ltL leHW hasW Env.lt AV.ids idsL AV.sub subL AV.ren AV.frz frzS frzP frzE frzL Heap.frz Blk.frz Blk.ren renL rnS rnP hasR leR idsL_bv subL_bv
attribute [local simp] cleanL_take cleanL_drop ltL_take ltL_drop idsL_take idsL_drop subL_take subL_drop cleanL_append ltL_append idsL_append subL_append
attribute [local simp] renE mvN mvH
attribute [local simp] fwd backH putL bwd
attribute [local simp] u8i u8e List.idxOf_cons
attribute [local simp] hasRW leRW
attribute [local simp] WS_at_map WSr_at_map loadWP splice_full Int.natCast_inj
/-- A record, and its page. -/
def cpP (r : Rec) (md : Md) (p : Nat) : List AV := recP r md ++ [.int .i64 (p : Nat)]
theorem fSetRead_spec (f : Fl) (hf : f.Ok) (p : Nat) (hp : p ≤ 1) : FSpec Try.prog 76 [.ptr 0 0, .int .i64 (p : Nat)] (flP f) (.tuple [.agg (cpP (rdF f p).1 ⟨false, false, false⟩ p), .bool (decide ((rdF f p).2 = 0))]) (flP f) := by
  have hl := hf.len
  have hpg := hf.pages
  have e1 : IntKind.i64.wrap ((p : Int) * 256) = ((256 * p : Nat) : Int) := by rw [show (p : Int) * 256 = ((256 * p : Nat) : Int) by omega]; exact wrap64 (by omega) (by omega)
  have hR := fFlRead_spec f hf (256 * p : Nat) 160 (by omega)
  have hrl : (readF f (256 * p : Nat) 160).1.length ≤ 160 := by
    unfold readF
    split
    · simp
    split
    · simp
    · simp; omega
  have hP := fRecParse_spec (readF f (256 * p : Nat) 160).1 ⟨false, false, false⟩ (by omega)
  rw [show parseR (readF f (256 * p : Nat) 160).1 = rdF f p from rfl] at hP
  obtain ⟨y, hy⟩ : ∃ y, y = readF f (256 * p : Nat) 160 := ⟨_, rfl⟩
  rw [← hy] at hR hP hrl
  clear hy
  simp only [Int.natCast_mul, Int.cast_ofNat_Int] at e1 hR
  simp only [recPR] at hP
  generalize rdF f p = x at *
  obtain ⟨r, e⟩ := x
  obtain ⟨yb, ye⟩ := y
  simp only at hP hR
  refine FSpec.of_W fSetRead_low (by simp) ?_
  simp only [initEnv]
  simp [e1, flP]
  refine WO_callF [0, 1, 2] rfl rfl hR (by simp [flP]) (by simp [flP]) (by simp) ?_
  simp [flP]
  simp only [recP] at hP
  refine WO_callP [] rfl rfl hP (by simp) (by simp) ?_
  simp
  exact fin_W (by simp [cpP, recP])
/-- The newest record, with its page, as cells. -/
def nwP (x : Option (Rec × Nat)) : List AV := match x with
  | some (r, p) => cpP r ⟨false, false, false⟩ p
  | none => cpP rec0 ⟨false, false, false⟩ 0
theorem fSetNewest_spec (f : Fl) (hf : f.Ok) : FSpec Try.prog 58 [.ptr 0 0] (flP f) (.tuple [.agg (nwP (newestS f)), .bool (newestS f).isSome]) (flP f) := by
  have h0 := fSetRead_spec f hf 0 (by decide)
  have h1 := fSetRead_spec f hf 1 (by decide)
  obtain ⟨N, hN⟩ : ∃ N, N = newestS f := ⟨_, rfl⟩
  rw [← hN]
  unfold newestS at hN
  generalize rdF f 0 = a at *
  generalize rdF f 1 = b at *
  obtain ⟨a, ea⟩ := a
  obtain ⟨b, eb⟩ := b
  simp only [cpP, recP] at h0 h1 hN
  obtain ⟨st, hst⟩ : ∃ st : Nat → Option (Rec × Nat), st = fun i => if i = 0 then none else if i = 1 then (if ea = 0 then some (a, 0) else none) else N := ⟨_, rfl⟩
  refine FSpec.of_W fSetNewest_low (by simp) ?_
  simp only [initEnv]
  simp [flP]
  refine W_loop (X := { i : Nat // i ≤ 2 }) (fun i => [(0, .ptr 0 0), (2, .ptr 3 0), (4, .ptr 4 0), (5, .bool (st i.1).isSome), (9, .int .i64 i.1)])
    (fun i => flP f ++ [some ⟨cpP rec0 ⟨true, true, false⟩ 0, 100, true⟩, some ⟨(if (st i.1).isSome = true then nwP (st i.1) else cpP rec0 ⟨true, true, false⟩ 0), 100, true⟩]) (fun i => 2 - i.1) ⟨0, by omega⟩ retPost_le ?_ ?_
  · refine cut_w ?_
    simp [hst, flP, cpP, recP, rec0]
  · rintro ⟨i, hi⟩
    simp only
    obtain rfl | rfl | rfl : i = 0 ∨ i = 1 ∨ i = 2 := by omega
    · simp [hst, flP, cpP, recP, rec0]
      refine WO_callF [0, 1, 2] rfl rfl h0 (by simp [flP]) (by simp [flP]) (by simp) ?_
      simp [flP]
      by_cases he : ea = 0
      · simp [he]
        exact ⟨⟨1, by omega⟩, by simp, cut_w (by simp [hst, he, flP, cpP, recP, rec0, nwP]; rfl)⟩
      · simp [he]
        exact ⟨⟨1, by omega⟩, by simp, cut_w (by simp [hst, he, flP, cpP, recP, rec0, nwP]; rfl)⟩
    · by_cases he : ea = 0
      · rw [if_pos he] at hN
        simp [hst, he, flP, cpP, recP, rec0, nwP]
        refine WO_callF [0, 1, 2] rfl rfl h1 (by simp [flP]) (by simp [flP]) (by simp) ?_
        simp [flP]
        by_cases hb : eb = 0
        · by_cases hq : a.seq < b.seq
          · rw [if_pos ⟨hb, hq⟩] at hN
            simp [hb, hq]
            exact ⟨⟨2, by omega⟩, by simp, cut_w (by simp [hN, flP, cpP, recP, rec0, nwP]; rfl)⟩
          · rw [if_neg (fun h => hq h.2)] at hN
            simp [hb, hq]
            exact ⟨⟨2, by omega⟩, by simp, cut_w (by simp [hN, flP, cpP, recP, rec0, nwP]; rfl)⟩
        · rw [if_neg (fun h => hb h.1)] at hN
          simp [hb]
          exact ⟨⟨2, by omega⟩, by simp, cut_w (by simp [hN, flP, cpP, recP, rec0, nwP]; rfl)⟩
      · rw [if_neg he] at hN
        simp [hst, he, flP, cpP, recP, rec0, nwP]
        refine WO_callF [0, 1, 2] rfl rfl h1 (by simp [flP]) (by simp [flP]) (by simp) ?_
        simp [flP]
        by_cases hb : eb = 0
        · rw [if_pos hb] at hN
          simp [hb]
          exact ⟨⟨2, by omega⟩, by simp, cut_w (by simp [hN, flP, cpP, recP, rec0, nwP]; rfl)⟩
        · rw [if_neg hb] at hN
          simp [hb]
          exact ⟨⟨2, by omega⟩, by simp, cut_w (by simp [hN, flP, cpP, recP, rec0, nwP]; rfl)⟩
    · cases N with
      | none =>
        simp [hst, flP, cpP, recP, rec0]
        exact fin_W (by simp [nwP, cpP, recP, rec0])
      | some x =>
        obtain ⟨r, p⟩ := x
        simp [hst, flP, cpP, recP, rec0, nwP]
        exact fin_W (by simp [nwP, cpP, recP])
def ldP (x : Rec × Nat × Int) : AV := .tuple [.agg (recP x.1 ⟨false, false, false⟩), .int .i64 (x.2.1 : Nat), .int .i64 x.2.2]
theorem fSetLoad_spec (f : Fl) (hf : f.Ok) : FSpec Try.prog 25 [.ptr 0 0] (flP f) (ldP (loadS f)) (flP f) := by
  have hS := fFlSize_spec f
  have hO := fFlOff_spec f
  have hN := fSetNewest_spec f hf
  obtain ⟨R, hR⟩ : ∃ R, R = loadS f := ⟨_, rfl⟩
  rw [← hR]
  unfold loadS at hR
  refine FSpec.of_W fSetLoad_low (by simp) ?_
  simp only [initEnv]
  simp [flP]
  refine WO_callF [0, 1, 2] rfl rfl hS (by simp [flP]) (by simp [flP]) (by simp) ?_
  simp [flP]
  by_cases c1 : f.b.length < 512
  · rw [if_pos c1] at hR
    rw [hR]
    have c1' : (f.b.length : Int) < 512 := by omega
    simp [c1']
    exact fin_W (by simp [ldP, recP, rec0])
  rw [if_neg c1] at hR
  have c1' : ¬ (f.b.length : Int) < 512 := by omega
  simp [c1']
  refine WO_callF [0, 1, 2] rfl rfl hO (by simp [flP]) (by simp [flP]) (by simp) ?_
  simp [flP]
  cases ho : f.off
  · rw [if_neg (by simp [ho])] at hR
    simp
    refine WO_callF [0, 1, 2] rfl rfl hN (by simp [flP]) (by simp [flP, ho]) (by simp) ?_
    cases hn : newestS f with
    | none =>
      rw [hn] at hR
      simp only at hR
      rw [hR]
      simp [flP, nwP, cpP, recP, rec0]
      exact fin_W (by simp [ldP, recP, rec0, ho])
    | some x =>
      obtain ⟨r, p⟩ := x
      rw [hn] at hR
      simp only at hR
      rw [hR]
      simp [flP, nwP, cpP, recP]
      exact fin_W (by simp [ldP, recP, ho])
  · rw [if_pos ho] at hR
    rw [hR]
    simp
    exact fin_W (by simp [ldP, recP, rec0])
end Go.Proofs.Ytjehncilahjmdaa
