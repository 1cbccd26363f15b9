/-
  TlvEncodes
-/
import Derived.Test.YtlffcidcopibmaaT7
set_option linter.unusedSimpArgs false
set_option linter.unusedVariables false
set_option linter.unusedSectionVars false
namespace Go.Proofs.Ytlffcidcopibmaa
open Go Go.Fw
attribute [local simp] bv cleanL_bv toBytes_bv ltL_bv atF_drop WS_at_bytes W_nil W_skip W_seq W_reg W_draw W_kill W_keep W_block W_blk W_exit W_ret WX_blk WX_c WX_lp WX_li W_li W_condT W_condF W_cond WC_true WC_false
  WR_nil WR_cons WR_o1 WR_o2 o1_chk o2_chk WR_grd WG_tt WG_ff WG_tf WG_ft WG_none WS_some WS_ok1 WSr_no WSr_some WSr_ok1 WSr_at_bytes WH_some chkF_cons chkF_nil chkE_some chkE_ok1 chkE_at evF WO_mv WO_pick WO_bin WO_isNil WO_eqA WO_un WO_convI WO_toStr WO_ofStr WO_build WO_buildF WO_load WO_nilCheck WO_fieldAddr WO_field WO_idxA WO_idxS
  WO_ixA WO_slS WO_slA WO_len WO_lenK WO_appF WO_extract WO_s2a WO_iface WO_min WO_max WO_alloc WO_box WO_buildO WO_store WO_appO WO_copy WO_makeS WO_func bind1_v bind2_v bindH_v bindH2_v bindS_v okO_v pickO_t pickO_f
  Env.keep Env.get Env.set Env.del Env.dels Env.setO Env.opd Env.opds Env.opdO Env.parts intF aggF fillA splice cleanL AV.clean bndF fldF_one fldF_many toStrF boxF buildOF
  loadF_rptr loadF_rptrN atF_zero atF_succ blk_cons_zero blk_cons_succ loadF_p loadF_pN atB_some atBN_some retPost resL one
  okc_bool cells_bool notStr_bool okc_int cells_int notStr_int okc_str cells_str notStr_str okc_nil cells_nil notStr_nil okc_ptr cells_ptr notStr_ptr okc_rptr cells_rptr notStr_rptr okc_slice cells_slice notStr_slice 
  okc_list cells_list notStr_list okc_func cells_func notStr_func okc_nilFunc cells_nilFunc notStr_nilFunc okc_iface cells_iface notStr_iface okc_nilIface cells_nilIface notStr_nilIface okc_agg cells_agg notStr_agg 
  okc_tuple cells_tuple notStr_tuple lenF_slice lenF_list lenF_str faF_ptr faF_rptr idxSF_slice idxSF_list idxAF_ptr idxAF_rptr ixAF_many ixAF_one convF_int unF_neg unF_xor unF_not nilF_0nil nilF_0ptr nilF_0rptr nilF_1 
  nilF_2nil nilF_2f nilF_3nil nilF_3f binF_int binF_beq binF_bne binF_sadd binF_seq binF_sne sliceCells_list sliceCells_str sliceCells_slice cutC_some szAV_list szAV_str szAV_slice oneSl_list oneSl_slice slSF_sliceS 
  slSF_sliceN slSF_list slAF_rptr slAF_ptr appFF_list appOF_list appOF_sliceN appOF_sliceS storeF_ptr copyF_slice extF_tuple s2aF_slice s2aF_list nchkF_ptr nchkF_rptr nchkF_f mmF_int ofStrF_str mkSF_int eqAF_agg
attribute [local irreducible] W WX WR WO WS WSr WH WG WC FSpec
attribute [local simp] lendAll
attribute [local congr] W_cg WR_cg WO_cg WS_cg WSr_cg WH_cg WG_cg WC_cg WX_cg
attribute [local simp] Env.has AV.wkr wkrL AV.wkr_refl wkrL_refl AV.ltI ltL leHW hasW Env.lt AV.ids idsL AV.sub subL AV.ren AV.frz frzS frzP frzE frzL Heap.frz Blk.frz Blk.ren renL rnS rnP hasR leR idsL_bv subL_bv
attribute [local simp] cleanL_take cleanL_drop ltL_take ltL_drop idsL_take idsL_drop subL_take subL_drop cleanL_append ltL_append idsL_append subL_append
theorem tlvE_nil : ∀ (l : List It2) (last : UInt8) (i : Nat) (out : List UInt8), ¬ (tlvE l last i out).2 = 0 → (tlvE l last i out).1 = []
  | [], last, i, out, h => absurd rfl h
  | x :: l, last, i, out, h => by
    rw [tlvE] at h ⊢
    split
    · rfl
    · rename_i h1
      rw [if_neg h1] at h
      split
      · rfl
      · rename_i h2
        rw [if_neg h2] at h
        exact tlvE_nil l _ _ _ h
theorem tlvE_all : ∀ (l : List It2) (last : UInt8) (i : Nat) (out res : List UInt8), tlvE l last i out = (res, 0) → i ≤ 16 → ∃ enc, res = out ++ enc ∧ enc.length ≤ (16 - i) * 202 ∧ ∀ o, o.length = i → tlvP enc last o = (o ++ l, 0)
  | [], last, i, out, res, h, _ => by cases h; exact ⟨[], by simp, by simp, fun o _ => by simp [tlvP]⟩
  | x :: l, last, i, out, res, h, hi => by
    rw [tlvE] at h
    split at h
    · cases h
    · rename_i h1
      split at h
      · cases h
      · rename_i h2
        obtain ⟨enc, rfl, h3, h4⟩ := tlvE_all l _ _ _ _ h (by omega)
        have hn : (UInt8.ofNat x.val.length).toNat = x.val.length := UInt8.toNat_ofNat_of_lt' (by show x.val.length < 256; omega)
        refine ⟨x.tag :: UInt8.ofNat x.val.length :: (x.val ++ enc), by simp, by simp; omega, fun o ho => ?_⟩
        rw [tlvP, if_neg h1, hn, if_neg (by omega), if_neg (by simp)]
        have := h4 (o ++ [⟨x.tag, x.val⟩]) (by simp [ho])
        simpa using this
theorem tlvF_snd (l : List It2) (tag : UInt8) (h : ∀ i ∈ l, ¬ i.tag = tag) : tlvF l tag = ([], false) := by
  have : l.find? (fun i => i.tag = tag) = none := by simp; exact h
  simp [tlvF, this]
theorem tlvF_hit (l r : List It2) (x : It2) (tag : UInt8) (h : ∀ i ∈ l, ¬ i.tag = tag) (hx : x.tag = tag) : tlvF (l ++ x :: r) tag = (x.val, true) := by
  have : l.find? (fun i => i.tag = tag) = none := by simp; exact h
  simp [tlvF, List.find?_append, this, hx]
theorem fTlvEncodes_spec (l : List It2) (md : Md) (tag : UInt8) (hl : l.length < 2^62) : FSpec Try.prog 4 [.list 2 md (cells2 l), bv tag] [] (.bool true) [] := by
  refine FSpec.of_W fTlvEncodes_low (by simp) ?_
  simp only [initEnv]
  simp
  refine WO_callP [] rfl rfl fLives_spec (by simp) (by simp) ?_
  simp
  refine WC_dec (fun h => ?_) (fun h => ?_)
  · simp
    refine WO_callP [] rfl rfl fLives_spec (by simp) (by simp) ?_
    simp
    exact fin_W (by simp)
  simp
  refine W_join_blk (Y := { _u : Unit // ∀ i ∈ l, i.val.length ≤ 400 }) (fun _ => [(0, .list 2 md (cells2 l)), (1, bv tag), (5, .slice 2 0 0 l.length none)]) (fun _ => [some ⟨cells2 l, 37, false⟩]) retPost_le ?_ (fun k hk => ?_)
  rotate_left
  · refine W_loop (X := { i : Nat // i ≤ l.length ∧ ∀ x ∈ l.take i, x.val.length ≤ 400 })
      (fun i => [(0, .list 2 md (cells2 l)), (1, bv tag), (5, .slice 2 0 0 i.1 none), (26, .list 2 md (cells2 l)), (27, .int .i64 l.length), (28, .int .i64 i.1)]) (fun i => [some ⟨cells2 (l.take i.1), 37, false⟩]) (fun i => l.length - i.1) ⟨0, by simp, by simp⟩ retPost_le ?_ ?_
    · refine cut_trans (cut_ghost 5 2 37 (by simp) rfl rfl) (cut_w ?_)
      simp
    · rintro ⟨i, hi, hv⟩
      simp only at hi hv ⊢
      simp
      refine WC_dec (fun hlt => ?_) (fun hlt => ?_)
      · obtain ⟨x, r, hd⟩ : ∃ x r, l.drop i = x :: r := ⟨l[i], l.drop (i+1), by simp⟩
        simp [hd]
        refine ⟨hlt, ?_⟩
        refine WC_dec (fun h4 => ?_) (fun h4 => ?_)
        · simp
          exact fin_W (by simp)
        · simp
          have e1 : List.take (i * 2) (cells2 (l.take i)) = cells2 (l.take i) := List.take_of_length_le (by simp; omega)
          have e2 : l.take (i + 1) = l.take i ++ [x] := by rw [List.take_add_one, ← Nat.add_zero i, ← List.getElem?_drop, hd]; rfl
          rw [e1, wrap64 (by omega) (by omega)]
          refine ⟨by omega, ⟨i + 1, by omega, ?_⟩, by simp; omega, ?_⟩
          · rw [e2]
            intro y hy
            rcases List.mem_append.1 hy with hy | hy
            · exact hv y hy
            · simp at hy; subst hy; omega
          refine cut_ren [2] (by simp) rfl ?_ ?_
          · simp [bwd, rnS]
          · simp [bwd, e2, cells2_append]
      · simp
        rw [List.take_of_length_le (by omega)] at hv ⊢
        have : i = l.length := by omega
        subst this
        exact hk ⟨(), hv⟩ _ (by simp)
  rintro ⟨-, hv⟩
  simp
  refine WO_callP [] rfl rfl (fEncode_spec l _ (by omega)) (by simp [encR]) (by simp) ?_
  simp [encR]
  refine WO_callP (as' := [.list 2 ⟨false, false, true⟩ (cells2 l)]) [0] rfl (by simp [List.take_of_length_le]) (fREncode_spec l _ (by omega)) (by simp [encR]) (by simp) ?_
  simp [encR]
  refine WO_callP [] rfl rfl (fFind_spec l _ tag (by omega) (fun i hi => by have := hv i hi; omega)) (by simp) (by simp) ?_
  simp
  refine W_join_cut (Y := Unit) (fun _ => [(5, .slice 2 0 0 l.length none), (8, .list 1 ⟨false, false, false⟩ ((tlvE l 0 0 []).1.map bv)), (9, .int .i64 (tlvE l 0 0 []).2), (13, .bool false)]) (fun _ => [some ⟨cells2 l, 37, false⟩]) ?_ (fun k hk => ?_)
  rotate_left
  · refine W_loop (X := { i : Nat // i ≤ l.length ∧ ∀ x ∈ l.take i, ¬ x.tag = tag })
      (fun i => [(1, bv tag), (5, .slice 2 0 0 l.length none), (8, .list 1 ⟨false, false, false⟩ ((tlvE l 0 0 []).1.map bv)), (9, .int .i64 (tlvE l 0 0 []).2), (12, .list 1 ⟨false, false, false⟩ ((tlvF l tag).1.map bv)), (13, .bool (tlvF l tag).2),
        (71, .list 2 md (cells2 l)), (72, .int .i64 l.length), (73, .int .i64 i.1)]) (fun i => [some ⟨cells2 l, 37, false⟩]) (fun i => l.length - i.1) ⟨0, by simp, by simp⟩ retPost_le ?_ ?_
    · refine cut_w ?_
      simp
    · rintro ⟨i, hi, hn⟩
      simp only at hi hn ⊢
      simp
      refine WC_dec (fun hlt => ?_) (fun hlt => ?_)
      · obtain ⟨x, r, hd⟩ : ∃ x r, l.drop i = x :: r := ⟨l[i], l.drop (i+1), by simp⟩
        have hlr : l = l.take i ++ x :: r := by rw [← hd, List.take_append_drop]
        have e2 : l.take (i + 1) = l.take i ++ [x] := by rw [List.take_add_one, ← Nat.add_zero i, ← List.getElem?_drop, hd]; rfl
        simp [hd]
        refine ⟨hlt, ?_⟩
        refine WC_dec (fun ht => ?_) (fun ht => ?_)
        · have ht : x.tag = tag := UInt8.toNat_inj.1 (Int.natCast_inj.1 ht)
          have hf : tlvF l tag = (x.val, true) := by rw [hlr]; exact tlvF_hit _ _ _ _ hn ht
          simp [hf]
          refine hk () _ _ (cut_w ?_)
          simp
        · have ht : ¬ x.tag = tag := fun q => ht (by rw [q])
          simp
          rw [wrap64 (by omega) (by omega)]
          refine ⟨⟨i + 1, by omega, ?_⟩, by simp; omega, ?_⟩
          · rw [e2]
            intro y hy
            rcases List.mem_append.1 hy with hy | hy
            · exact hn y hy
            · simp at hy; subst hy; exact ht
          refine cut_w ?_
          simp
      · simp
        rw [List.take_of_length_le (by omega)] at hn
        have hf : tlvF l tag = ([], false) := tlvF_snd _ _ hn
        refine hk () _ _ (cut_w ?_)
        simp [hf]
  rintro -
  simp
  refine WC_ndec (fun he => ?_) (fun he => ?_)
  · simp
    refine fin_W ?_
    simp
    exact tlvE_nil _ _ _ _ he
  simp
  obtain ⟨enc, h1, h2, h3⟩ := tlvE_all l 0 0 [] (tlvE l 0 0 []).1 (by rw [← he]) (by omega)
  simp only [List.nil_append] at h1
  refine WO_callP [] rfl rfl (fParse_spec (tlvE l 0 0 []).1 _ (by rw [h1]; omega)) (by simp [tlvR]) (by simp) ?_
  have e : tlvP (tlvE l 0 0 []).1 0 [] = (l, 0) := by rw [h1]; exact h3 [] rfl
  rw [e]
  simp [tlvR]
  refine WO_callP (as' := [.list 2 ⟨false, false, false⟩ (cells2 l), .list 2 ⟨false, false, true⟩ (cells2 l)]) [0] rfl (by simp [List.take_of_length_le]) (fSame_spec l l _ _ (by omega) (by omega)) (by simp) (by simp) ?_
  simp
  exact fin_W (by simp)
/-- An item, as it comes. -/
def itemE (x : UInt8 × Bool × Bool × List UInt8) : List AV := [bv x.1, .list 1 ⟨x.2.1, x.2.2.1, false⟩ (x.2.2.2.map bv)]
theorem wk_items (l : List (UInt8 × Bool × Bool × List UInt8)) : wkrL (l.flatMap itemE) (cells2 (l.map fun x => ⟨x.1, x.2.2.2⟩)) := by
  induction l with
  | nil => rfl
  | cons x l ih => simpa [itemE] using ih
theorem fit_item {n : Nat} {y : List AV} (h : Fit Try.prog (n + 3) 39 y) : ∃ x, y = itemE x := by
  obtain ⟨a, b, rfl, h1, c, d, rfl, h2, rfl⟩ := fit_struct Try.underlying39 h
  obtain ⟨t, rfl⟩ := fit_u8 Try.underlying5 h1
  obtain ⟨z, rfl⟩ := fit_one (by rw [Try.underlying22]) h2
  obtain ⟨nl, full, l, rfl, _⟩ := fit_bytes Try.underlying22 Try.underlying5 (by kernel_rfl) (by kernel_rfl) h2
  exact ⟨(t, nl, full, l), rfl⟩
theorem fTlvEncodes_law : ∀ args, AllFit Try.prog 8 Try.f4.params.toList args → FSpec Try.prog 4 args [] (.bool true) [] := by
  intro args has
  rw [show Try.f4.params.toList = [24, 5] from by rw [Try.params4]] at has
  obtain ⟨a, as1, rfl, h1, has⟩ := all_cons has
  obtain ⟨c, as2, rfl, h2, has⟩ := all_cons has
  cases all_nil has
  obtain ⟨b, rfl⟩ := arg_u8 Try.underlying5 h2
  obtain ⟨nl, full, l, rfl, hl⟩ := arg_slice itemE Try.underlying24 (fun y hy => fit_item hy) h1
  rw [show Try.prog.cellsOf 39 = 2 by kernel_rfl]
  rw [show Try.prog.bytesOf 39 = 32 by kernel_rfl] at hl
  refine FSpec.wk ?_ (fTlvEncodes_spec (l.map fun x => ⟨x.1, x.2.2.2⟩) ⟨nl, full, false⟩ b (by simp; omega))
  simp [wk_items]
end Go.Proofs.Ytlffcidcopibmaa
