/-
  chapter 11
-/
import Derived.Test.YtlffcidcopibmaaT5
set_option linter.unusedSimpArgs false
set_option linter.unusedVariables false
set_option linter.unusedSectionVars false
namespace Go.Proofs.Ytlffcidcopibmaa
open Go Go.Fw
attribute [local simp] bv cleanL_bv toBytes_bv ltL_bv atF_drop WS_at_bytes W_nil W_skip W_seq W_reg W_draw W_kill W_keep W_block W_blk W_exit W_ret WX_blk WX_c WX_lp WX_li W_li W_condT W_condF W_cond WC_true WC_false
  WR_nil WR_cons WR_o1 WR_o2 o1_chk o2_chk WR_grd WG_tt WG_ff WG_tf WG_ft WG_none WS_some WS_ok1 WSr_no WSr_some WSr_ok1 WSr_at_bytes WH_some chkF_cons chkF_nil chkE_some chkE_ok1 chkE_at evF WO_mv WO_pick WO_bin WO_isNil WO_eqA WO_un WO_convI WO_toStr WO_ofStr WO_build WO_buildF WO_load WO_nilCheck WO_fieldAddr WO_field WO_idxA WO_idxS
  WO_ixA WO_slS WO_slA WO_len WO_lenK WO_appF WO_extract WO_s2a WO_iface WO_min WO_max WO_alloc WO_box WO_buildO WO_store WO_appO WO_copy WO_makeS WO_func bind1_v bind2_v bindH_v bindH2_v bindS_v okO_v pickO_t pickO_f
  Env.keep Env.get Env.set Env.del Env.dels Env.setO Env.opd Env.opds Env.opdO Env.parts intF aggF fillA splice cleanL AV.clean bndF fldF_one fldF_many toStrF boxF buildOF
  loadF_rptr loadF_rptrN atF_zero atF_succ blk_cons_zero blk_cons_succ loadF_p loadF_pN atB_some atBN_some retPost resL one
  okc_bool cells_bool notStr_bool okc_int cells_int notStr_int okc_str cells_str notStr_str okc_nil cells_nil notStr_nil okc_ptr cells_ptr notStr_ptr okc_rptr cells_rptr notStr_rptr okc_slice cells_slice notStr_slice 
  okc_list cells_list notStr_list okc_func cells_func notStr_func okc_nilFunc cells_nilFunc notStr_nilFunc okc_iface cells_iface notStr_iface okc_nilIface cells_nilIface notStr_nilIface okc_agg cells_agg notStr_agg 
  okc_tuple cells_tuple notStr_tuple lenF_slice lenF_list lenF_str faF_ptr faF_rptr idxSF_slice idxSF_list idxAF_ptr idxAF_rptr ixAF_many ixAF_one convF_int unF_neg unF_xor unF_not nilF_0nil nilF_0ptr nilF_0rptr nilF_1 
  nilF_2nil nilF_2f nilF_3nil nilF_3f binF_int binF_beq binF_bne binF_sadd binF_seq binF_sne sliceCells_list sliceCells_str sliceCells_slice cutC_some szAV_list szAV_str szAV_slice oneSl_list oneSl_slice slSF_sliceS 
  slSF_sliceN slSF_list slAF_rptr slAF_ptr appFF_list appOF_list appOF_sliceN appOF_sliceS storeF_ptr copyF_slice extF_tuple s2aF_slice s2aF_list nchkF_ptr nchkF_rptr nchkF_f mmF_int ofStrF_str mkSF_int eqAF_agg
attribute [local irreducible] W WX WR WO WS WSr WH WG WC FSpec
attribute [local simp] lendAll
attribute [local congr] W_cg WR_cg WO_cg WS_cg WSr_cg WH_cg WG_cg WC_cg WX_cg
attribute [local simp] Env.has AV.wkr wkrL AV.wkr_refl wkrL_refl AV.ltI ltL leHW hasW Env.lt AV.ids idsL AV.sub subL AV.ren AV.frz frzS frzP frzE frzL Heap.frz Blk.frz Blk.ren renL rnS rnP hasR leR idsL_bv subL_bv
attribute [local simp] cleanL_take cleanL_drop ltL_take ltL_drop idsL_take idsL_drop subL_take subL_drop cleanL_append ltL_append idsL_append subL_append
theorem fLives_spec : FSpec Try.prog 11 [] [] (.bool true) [] := by
  refine FSpec.of_W fLives_low (by simp) ?_
  simp only [initEnv]
  simp
  have e : tlvP [1, 2, 7, 8] 0 [] = ([⟨1, [7, 8]⟩], 0) := by simp [tlvP]
  refine WO_callP [] rfl rfl (fParse_spec [1, 2, 7, 8] ⟨false, true, false⟩ (by simp)) ?_ ?_ ?_
  · simp [tlvR]
  · simp
  rw [e]
  simp [tlvR, toBytes]
  exact fin_W (by simp)
theorem tlvP_all (b : List UInt8) (last : UInt8) (out : List It2) : ∀ res, tlvP b last out = (res, 0) → out.length ≤ 16 →
    ∃ l, res = out ++ l ∧ res.length ≤ 16 ∧ (∀ i ∈ l, i.val.length ≤ 200 ∧ last < i.tag) ∧ l.Pairwise (fun a b => a.tag < b.tag) ∧ ∀ acc, tlvE l last out.length acc = (acc ++ b, 0) := by
  fun_induction tlvP b last out with
  | case1 last out => intro res h ho; cases h; exact ⟨[], by simp, ho, by simp, by simp, by simp [tlvE]⟩
  | case2 last out x => intro res h; cases h
  | case3 last out t n r h => intro res h; cases h
  | case4 last out t n r h h2 => intro res h; cases h
  | case5 last out t n r h h2 h3 => intro res h; cases h
  | case6 last out t n r h h2 h3 ih =>
    intro res hr ho
    obtain ⟨l, rfl, h4, h5, h6, h7⟩ := ih res hr (by simp; omega)
    have hm : min n.toNat r.length = n.toNat := by omega
    have hv : (r.take n.toNat).length = n.toNat := by simp [hm]
    refine ⟨⟨t, r.take n.toNat⟩ :: l, by simp, h4, fun i hi => ?_, ?_, fun acc => ?_⟩
    · rcases List.mem_cons.1 hi with rfl | hi
      · exact ⟨by rw [hv]; omega, UInt8.not_le.1 h⟩
      · exact ⟨(h5 i hi).1, UInt8.lt_trans (UInt8.not_le.1 h) (h5 i hi).2⟩
    · exact List.pairwise_cons.2 ⟨fun i hi => (h5 i hi).2, h6⟩
    · rw [tlvE]
      simp only [hv]
      rw [if_neg h, if_neg (by omega)]
      have := h7 (acc ++ [t, UInt8.ofNat n.toNat] ++ r.take n.toNat)
      rw [List.length_append] at this
      rw [show out.length + [(⟨t, r.take n.toNat⟩ : It2)].length = out.length + 1 from rfl] at this
      rw [this]
      simp
theorem tlvP_len (b : List UInt8) (last : UInt8) (out : List It2) : out.length ≤ 16 → (∀ i ∈ out, i.val.length ≤ 200) → (tlvP b last out).1.length ≤ 16 ∧ ∀ i ∈ (tlvP b last out).1, i.val.length ≤ 200 := by
  fun_induction tlvP b last out with
  | case1 last out => intro h k; exact ⟨h, k⟩
  | case2 last out x => intro h k; simp
  | case3 last out t n r h => intro h k; simp
  | case4 last out t n r h h2 => intro h k; simp
  | case5 last out t n r h h2 h3 => intro h k; simp
  | case6 last out t n r h h2 h3 ih =>
    intro ho k
    refine ih (by simp; omega) fun i hi => ?_
    rcases List.mem_append.1 hi with hi | hi
    · exact k i hi
    · simp at hi; subst hi; simp; omega
/-- The last of a tag's values. -/
def tlvL (l : List It2) (tag : UInt8) (w : List UInt8 × Bool) : List UInt8 × Bool := l.foldl (fun w x => if x.tag = tag then (x.val, true) else w) w
theorem tlvL_none (l : List It2) (tag : UInt8) (w : List UInt8 × Bool) (h : ∀ i ∈ l, ¬ i.tag = tag) : tlvL l tag w = w := by
  induction l generalizing w with
  | nil => rfl
  | cons x l ih => simp only [tlvL, List.foldl_cons]; rw [if_neg (h x (by simp))]; exact ih w fun i hi => h i (by simp [hi])
theorem tlvL_eq (l : List It2) (tag : UInt8) (h : l.Pairwise (fun a b => a.tag < b.tag)) : tlvL l tag ([], false) = tlvF l tag := by
  induction l with
  | nil => rfl
  | cons x l ih =>
    obtain ⟨h1, h2⟩ := List.pairwise_cons.1 h
    simp only [tlvL, List.foldl_cons, tlvF, List.find?_cons]
    by_cases hx : x.tag = tag
    · simp only [hx, if_true, decide_true]
      exact tlvL_none l tag _ fun i hi q => by have := h1 i hi; rw [hx, q] at this; exact UInt8.lt_irrefl _ this
    · simp only [hx, if_false, decide_false]
      exact ih h2
theorem fTlvParses_spec (b : List UInt8) (md : Md) (tag : UInt8) (hb : b.length < 2^62) : FSpec Try.prog 3 [.list 1 md (b.map bv), bv tag] [] (.bool true) [] := by
  refine FSpec.of_W fTlvParses_low (by simp) ?_
  simp only [initEnv]
  simp
  refine WO_callP [] rfl rfl fLives_spec (by simp) (by simp) ?_
  simp
  refine WC_dec (fun h => ?_) (fun h => ?_)
  · simp
    refine WO_callP [] rfl rfl fLives_spec (by simp) (by simp) ?_
    simp
    exact fin_W (by simp)
  simp
  refine ⟨by omega, ?_⟩
  refine WO_callP [] rfl rfl (fParse_spec b _ hb) (by simp [tlvR]) (by simp) ?_
  simp [tlvR]
  refine WO_callP [] rfl rfl (fRParse_spec b _ hb) (by simp [tlvR]) (by simp) ?_
  simp [tlvR]
  have hlen : (tlvP b 0 []).1.length ≤ 16 ∧ ∀ i ∈ (tlvP b 0 []).1, i.val.length ≤ 200 := tlvP_len b 0 [] (by simp) (by simp)
  refine WO_callP [] rfl rfl (fSame_spec _ _ _ _ (by omega) (by omega)) (by simp) (by simp) ?_
  simp
  refine WC_ndec (fun h0 => ?_) (fun h0 => ?_)
  · simp
    exact fin_W (by simp)
  obtain ⟨l, h1, -, h3, h4, h5⟩ := tlvP_all b 0 [] (tlvP b 0 []).1 (by rw [← h0]) (by simp)
  simp only [List.nil_append] at h1
  rw [← h1] at h3 h4 h5
  generalize (tlvP b 0 []).1 = m at *
  subst h1
  simp
  refine WO_callP [] rfl rfl (fEncode_spec m _ (by omega)) (by simp [encR]) (by simp) ?_
  have h5 := h5 []
  simp only [List.length_nil, List.nil_append] at h5
  simp [encR, h5]
  refine WO_callP [] rfl rfl (fFind_spec m _ tag (by omega) (fun i hi => by have := (h3 i hi).1; omega)) (by simp) (by simp) ?_
  simp
  refine W_loop (X := { s : Nat × List UInt8 × Bool // s.1 ≤ m.length ∧ tlvL (m.drop s.1) tag s.2 = tlvF m tag })
    (fun s => [(0, .list 1 md (b.map bv)), (1, bv tag), (10, .list 1 ⟨false, false, false⟩ (b.map bv)), (11, .int .i64 0), (12, .list 1 ⟨false, false, false⟩ ((tlvF m tag).1.map bv)), (13, .bool (tlvF m tag).2),
      (14, .list 1 ⟨false, false, false⟩ (s.1.2.1.map bv)), (15, .bool s.1.2.2), (68, .list 2 ⟨false, false, false⟩ (cells2 m)), (69, .int .i64 m.length), (70, .int .i64 s.1.1)]) (fun _ => []) (fun s => m.length - s.1.1) ⟨(0, [], false), by simp, by simp [tlvL_eq m tag h4]⟩ retPost_le ?_ ?_
  · refine cut_w ?_
    simp
  · rintro ⟨⟨i, want, is⟩, hi, he⟩
    simp only at hi he ⊢
    simp
    refine WC_dec (fun hlt => ?_) (fun hlt => ?_)
    · obtain ⟨x, r, hd⟩ : ∃ x r, m.drop i = x :: r := ⟨m[i], m.drop (i+1), by simp⟩
      have hd2 : m.drop (i + 1) = r := by rw [← List.drop_drop, hd]; rfl
      rw [hd] at he
      simp [hd]
      refine ⟨hlt, ?_⟩
      refine WC_dec (fun ht => ?_) (fun ht => ?_)
      · have ht : x.tag = tag := UInt8.toNat_inj.1 (Int.natCast_inj.1 ht)
        simp
        refine ⟨⟨(i + 1, x.val, true), by simp; omega, by simp only [hd2]; rw [← he]; simp [tlvL, ht]⟩, by simp; omega, ?_⟩
        refine cut_w ?_
        simp
        rw [wrap64 (by omega) (by omega)]
      · have ht : ¬ x.tag = tag := fun q => ht (by rw [q])
        simp
        refine ⟨⟨(i + 1, want, is), by simp; omega, by simp only [hd2]; rw [← he]; simp [tlvL, ht]⟩, by simp; omega, ?_⟩
        refine cut_w ?_
        simp
        rw [wrap64 (by omega) (by omega)]
    · rw [List.drop_of_length_le (by omega)] at he
      simp [← he, tlvL]
      exact fin_W (by simp)
theorem fTlvParses_law : ∀ args, AllFit Try.prog 8 Try.f3.params.toList args → FSpec Try.prog 3 args [] (.bool true) [] := by
  intro args has
  rw [show Try.f3.params.toList = [22, 5] from by rw [Try.params3]] at has
  obtain ⟨a, as1, rfl, h1, has⟩ := all_cons has
  obtain ⟨c, as2, rfl, h2, has⟩ := all_cons has
  cases all_nil has
  obtain ⟨nl, full, l, rfl, hl⟩ := arg_bytes Try.underlying22 Try.underlying5 (by kernel_rfl) (by kernel_rfl) h1
  obtain ⟨b, rfl⟩ := arg_u8 Try.underlying5 h2
  exact fTlvParses_spec l _ b (by omega)
end Go.Proofs.Ytlffcidcopibmaa
