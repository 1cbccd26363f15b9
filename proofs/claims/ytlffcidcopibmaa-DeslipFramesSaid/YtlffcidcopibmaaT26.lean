/-
  deslip
-/
import Derived.Test.YtlffcidcopibmaaT25
set_option linter.unusedSimpArgs false
set_option linter.unusedVariables false
set_option linter.unusedSectionVars false
namespace Go.Proofs.Ytlffcidcopibmaa
open Go Go.Fw
attribute [local simp] bv cleanL_bv toBytes_bv ltL_bv atF_drop WS_at_bytes W_nil W_skip W_seq W_reg W_draw W_kill W_keep W_block W_blk W_exit W_ret WX_blk WX_c WX_lp WX_li W_li W_condT W_condF W_cond WC_true WC_false
  WR_nil WR_cons WR_o1 WR_o2 o1_chk o2_chk WR_grd WG_tt WG_ff WG_tf WG_ft WG_none WS_some WS_ok1 WSr_no WSr_some WSr_ok1 WSr_at_bytes WH_some chkF_cons chkF_nil chkE_some chkE_ok1 chkE_at evF WO_mv WO_pick WO_bin WO_isNil WO_eqA WO_un WO_convI WO_toStr WO_ofStr WO_build WO_buildF WO_load WO_nilCheck WO_fieldAddr WO_field WO_idxA WO_idxS
  WO_ixA WO_slS WO_slA WO_len WO_lenK WO_appF WO_extract WO_s2a WO_iface WO_min WO_max WO_alloc WO_box WO_buildO WO_store WO_appO WO_copy WO_makeS WO_func bind1_v bind2_v bindH_v bindH2_v bindS_v okO_v pickO_t pickO_f
  Env.keep Env.get Env.set Env.del Env.dels Env.setO Env.opd Env.opds Env.opdO Env.parts intF aggF fillA splice cleanL AV.clean bndF fldF_one fldF_many toStrF boxF buildOF
  loadF_rptr loadF_rptrN atF_zero atF_succ blk_cons_zero blk_cons_succ loadF_p loadF_pN atB_some atBN_some retPost resL one
  okc_bool cells_bool notStr_bool okc_int cells_int notStr_int okc_str cells_str notStr_str okc_nil cells_nil notStr_nil okc_ptr cells_ptr notStr_ptr okc_rptr cells_rptr notStr_rptr okc_slice cells_slice notStr_slice 
  okc_list cells_list notStr_list okc_func cells_func notStr_func okc_nilFunc cells_nilFunc notStr_nilFunc okc_iface cells_iface notStr_iface okc_nilIface cells_nilIface notStr_nilIface okc_agg cells_agg notStr_agg 
  okc_tuple cells_tuple notStr_tuple lenF_slice lenF_list lenF_str faF_ptr faF_rptr idxSF_slice idxSF_list idxAF_ptr idxAF_rptr ixAF_many ixAF_one convF_int unF_neg unF_xor unF_not nilF_0nil nilF_0ptr nilF_0rptr nilF_1 
  nilF_2nil nilF_2f nilF_3nil nilF_3f binF_int binF_beq binF_bne binF_sadd binF_seq binF_sne sliceCells_list sliceCells_str sliceCells_slice cutC_some szAV_list szAV_str szAV_slice oneSl_list oneSl_slice slSF_sliceS 
  slSF_sliceN slSF_list slAF_rptr slAF_ptr appFF_list appOF_list appOF_sliceN appOF_sliceS storeF_ptr copyF_slice extF_tuple s2aF_slice s2aF_list nchkF_ptr nchkF_rptr nchkF_f mmF_int ofStrF_str mkSF_int eqAF_agg
attribute [local irreducible] W WX WR WO WS WSr WH WG WC FSpec
attribute [local simp] lendAll
attribute [local congr] W_cg WR_cg WO_cg WS_cg WSr_cg WH_cg WG_cg WC_cg WX_cg
attribute [local simp] Env.has AV.wkr wkrL AV.wkr_refl wkrL_refl AV.ltI ltL leHW hasW Env.lt AV.ids idsL AV.sub subL AV.ren AV.frz frzS frzP frzE frzL Heap.frz Blk.frz Blk.ren renL rnS rnP hasR leR idsL_bv subL_bv
attribute [local simp] cleanL_take cleanL_drop ltL_take ltL_drop idsL_take idsL_drop subL_take subL_drop cleanL_append ltL_append idsL_append subL_append
attribute [local simp] renE mvN mvH
attribute [local simp] fwd backH putL bwd
attribute [local simp] u8i u8e List.idxOf_cons
attribute [local simp] hasRW leRW
theorem feeds_tlen (most : Int) : ∀ (b : List UInt8) (s : List UInt8 × Bool × Bool), (feedsF most s b).2.1.length ≤ s.1.length + b.length
  | [], _ => Nat.le_refl _
  | c :: b, s => by
    have h1 := feeds_tlen most b (feedF most s c).2
    have h2 : (feedF most s c).2.1.length ≤ s.1.length + 1 := feedF_len most s.1 s.2.1 s.2.2 c
    simp only [feedsF, List.length_cons] at h1 ⊢
    omega
theorem fDeslipFrames_spec (l : List (List UInt8)) (md : Md) (ahead : List UInt8) (md2 : Md) (hl : l.length < 2 ^ 62) (ha : ahead.length < 2 ^ 62) (hx : ∀ x ∈ l, x.length < 2 ^ 62) : FSpec Try.prog 7 [.list 1 md (bls l), .list 1 md2 (ahead.map bv)] [] (.bool true) [] := by
  refine FSpec.of_W fDeslipFrames_low (by simp) ?_
  simp only [initEnv]
  simp
  refine WO_callP [] rfl rfl fLives10_spec (by simp) (by simp) ?_
  by_cases h0 : 30 < (l.length : Int)
  · simp [h0]
    refine WO_callP [] rfl rfl fLives10_spec (by simp) (by simp) ?_
    simp
    exact fin_W (by simp)
  by_cases h1 : 200 < (ahead.length : Int)
  · simp [h0, h1]
    refine WO_callP [] rfl rfl fLives10_spec (by simp) (by simp) ?_
    simp
    exact fin_W (by simp)
  simp [h0, h1]
  refine WO_call rfl (fNew_spec 300 (by omega) (by omega)) (by simp) ?_
  simp
  refine WO_call rfl (fFeedL_spec [] 300 false false ahead md2 (by simp; omega)) (by simp) ?_
  have inv := feeds_inv 300 ahead ([], false, false) (by intro h; cases h)
  have htl : (feedsF 300 ([], false, false) ahead).2.1.length ≤ 300 := by have := feeds_tlen 300 ahead ([], false, false); simp at this; omega
  generalize feedsF 300 ([], false, false) ahead = s at *
  obtain ⟨ev, tx, es, sk⟩ := s
  simp [dH']
  refine WO_callF [0, 2] rfl rfl (fFeedL_spec tx 300 es sk [192] ⟨false, true, false⟩ (by simp at htl ⊢; omega)) (by simp [dH']) (by simp [dH]) (by simp) ?_
  rw [feeds_end 300 (tx, es, sk) inv]
  simp [dH']
  refine W_loop (X := { i : Nat // i ≤ l.length }) (fun i => [(5, .ptr 0 0), (37, .list 1 md (bls l)), (38, .int .i64 l.length), (39, .int .i64 i.1)]) (fun i => dH [] 300 false false) (fun i => l.length - i.1) ⟨0, by simp⟩ retPost_le ?_ ?_
  · refine cut_rw [0, 3] (by simp) rfl (by simp) ?_
    simp [dH]
  rintro ⟨i, hi⟩
  simp only at hi ⊢
  by_cases hlt : i < l.length
  · obtain ⟨x, r, hd⟩ : ∃ c r, l.drop i = c :: r := ⟨l[i], l.drop (i+1), by simp⟩
    have hxm := hx x (List.mem_of_mem_drop (by rw [hd]; simp : x ∈ l.drop i))
    by_cases h3 : 300 < (x.length : Int)
    · simp [hlt, hd, h3]
      exact fin_W (by simp)
    simp [hlt, hd, h3]
    refine WO_callP [] rfl rfl (fREnc_spec x _ (by omega)) (by simp) (by simp) ?_
    have hel := encF_len x
    simp
    refine WO_call («as» := [.ptr 0 0, .list 1 ⟨false, false, false⟩ ((encF x ++ [192]).map bv)]) (by simp) (fFeedL_spec [] 300 false false (encF x ++ [192]) _ (by simp; omega)) (by simp) ?_
    have hf : feedsF (300 : Int) ([], false, false) (encF x ++ [192]) = (zer (encF x).length ++ [evOf (x, 0)], [], false, false) := by simpa using feeds_frame 300 x (by omega)
    rw [hf]
    have hg1 : ∀ j e, (zer (encF x).length ++ [evOf (x, 0)])[j]? = some e → (j < (encF x).length ∧ e.kind = 0) ∨ (j = (encF x).length ∧ e.frame = x ∧ ¬ e.kind = 2) := by
      intro j e he
      by_cases hj : j < (encF x).length
      · rw [List.getElem?_append_left (by simpa using hj)] at he
        simp [zer, List.getElem?_replicate, hj] at he
        exact .inl ⟨hj, by rw [← he]⟩
      · rw [List.getElem?_append_right (by simpa using hj)] at he
        have : j - (zer (encF x).length).length = 0 := by
          rcases Nat.eq_zero_or_pos (j - (zer (encF x).length).length) with h | h
          · exact h
          · rw [List.getElem?_eq_none (by simp at h ⊢; omega)] at he; cases he
        rw [this] at he
        simp at he this
        refine .inr ⟨by omega, ?_⟩
        rw [← he]
        unfold evOf
        by_cases hx0 : 0 < x.length
        · simp [hx0]
        · have : x = [] := List.length_eq_zero_iff.1 (by omega)
          simp [hx0, this]
    have hgl : (zer (encF x).length ++ [evOf (x, 0)]).length = (encF x).length + 1 := by simp
    generalize zer (encF x).length ++ [evOf (x, 0)] = got at *
    simp [dH']
    refine W_loop (X := { j : Nat // j ≤ got.length }) (fun j => [(5, .ptr 0 0), (8, .list 1 ⟨false, false, false⟩ (x.map bv)), (9, .list 3 ⟨false, false, false⟩ (evs got)), (37, .list 1 md (bls l)), (38, .int .i64 l.length), (39, .int .i64 i), (50, .list 3 ⟨false, false, false⟩ (evs got)), (51, .int .i64 got.length), (52, .int .i64 j.1)])
      (fun _ => dH [] 300 false false) (fun j => got.length - j.1) ⟨0, by simp⟩ retPost_le ?_ ?_
    · refine cut_rw [0, 2] (by simp) rfl (by simp [hgl]) ?_
      simp [dH]
    rintro ⟨j, hj⟩
    simp only at hj ⊢
    by_cases hjlt : j < got.length
    · obtain ⟨e, r2, he⟩ : ∃ c r, got.drop j = c :: r := ⟨got[j], got.drop (j+1), by simp⟩
      have hje : got[j]? = some e := by rw [← Nat.add_zero j, ← List.getElem?_drop, he]; rfl
      have w1 : IntKind.i64.wrap ((j : Int) + 1) = (j : Int) + 1 := wrap64 (by omega) (by omega)
      have w2 : IntKind.i64.wrap ((got.length : Int) - 1) = (encF x).length := by rw [wrap64 (by omega) (by omega)]; omega
      rcases hg1 j e hje with ⟨k1, k2⟩ | ⟨k1, k2, k3⟩
      · have k1' : (j : Int) < (encF x).length := by omega
        have k1'' : ¬ (j : Int) = (encF x).length := by omega
        simp [hjlt, he, evs1, w1, w2, k1', k1'', k2, dH]
        refine ⟨⟨j + 1, by omega⟩, by simp; omega, ?_⟩
        refine cut_rw [0, 1] (by simp) rfl (by simp) ?_
        simp
      · subst k1
        simp [hjlt, he, evs1, w1, w2, k2, k3, dH]
        refine ⟨⟨(encF x).length + 1, by omega⟩, by simp; omega, ?_⟩
        refine cut_rw [0, 1] (by simp) rfl (by simp) ?_
        simp
    · have w1 : IntKind.i64.wrap ((i : Int) + 1) = (i : Int) + 1 := wrap64 (by omega) (by omega)
      simp [hjlt, w1]
      refine ⟨⟨i + 1, by omega⟩, by simp; omega, ?_⟩
      refine cut_rw [0, 1] (by simp) rfl (by simp) ?_
      simp [dH]
  · simp [hlt]
    exact fin_W (by simp)
/-- Bytes, as they come. -/
def bytesE (x : Bool × Bool × List UInt8) : List AV := [.list 1 ⟨x.1, x.2.1, false⟩ (x.2.2.map bv)]
theorem wk_bytes (l : List (Bool × Bool × List UInt8)) : wkrL (l.flatMap bytesE) (bls (l.map fun x => x.2.2)) := by
  induction l with
  | nil => rfl
  | cons x l ih => simpa [bytesE] using ih
theorem fDeslipFrames_law : ∀ args, AllFit Try.prog 8 Try.f7.params.toList args → FSpec Try.prog 7 args [] (.bool true) [] := by
  intro args has
  rw [show Try.f7.params.toList = [61, 22] from by rw [Try.params7]] at has
  obtain ⟨a, as1, rfl, h1, has⟩ := all_cons has
  obtain ⟨c, as2, rfl, h2, has⟩ := all_cons has
  cases all_nil has
  obtain ⟨nl, full, b, rfl, hb⟩ := arg_bytes Try.underlying22 Try.underlying5 (by kernel_rfl) (by kernel_rfl) h2
  obtain ⟨nl2, full2, l, rfl, hl⟩ := arg_slice (fun x : { x : Bool × Bool × List UInt8 // x.2.2.length < 2 ^ 62 } => bytesE x.1) Try.underlying61 (fun y hy => by
    obtain ⟨z, rfl⟩ := fit_one (by rw [Try.underlying22]) hy
    obtain ⟨nl, full, l, rfl, hl⟩ := fit_bytes Try.underlying22 Try.underlying5 (by kernel_rfl) (by kernel_rfl) hy
    exact ⟨⟨(nl, full, l), by simp; omega⟩, rfl⟩) h1
  rw [show Try.prog.cellsOf 22 = 1 by kernel_rfl]
  rw [show Try.prog.bytesOf 22 = 24 by kernel_rfl] at hl
  have e : l.flatMap (fun x => bytesE x.1) = (l.map Subtype.val).flatMap bytesE := by simp [List.flatMap_map]
  rw [e]
  refine FSpec.wk (as' := [.list 1 ⟨nl2, full2, false⟩ (bls ((l.map Subtype.val).map fun x => x.2.2)), .list 1 ⟨nl, full, false⟩ (b.map bv)]) ?_ (fDeslipFrames_spec _ _ b _ (by simp; omega) (by omega) ?_)
  · have := wk_bytes (l.map Subtype.val)
    simp only [wkrL, AV.wkr]
    exact ⟨⟨.inl trivial, fun h => h, fun h => h, fun h => h, this⟩, ⟨.inl trivial, fun h => h, fun h => h, fun h => h, wkrL_refl _⟩, trivial⟩
  · intro x hx
    simp only [List.map_map, List.mem_map] at hx
    obtain ⟨y, _, rfl⟩ := hx
    exact y.2
end Go.Proofs.Ytlffcidcopibmaa
