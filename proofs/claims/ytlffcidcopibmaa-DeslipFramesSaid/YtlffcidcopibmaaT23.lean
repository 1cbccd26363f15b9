/-
  deslip
-/
import Derived.Test.YtlffcidcopibmaaT22
set_option linter.unusedSimpArgs false
set_option linter.unusedVariables false
set_option linter.unusedSectionVars false
namespace Go.Proofs.Ytlffcidcopibmaa
open Go Go.Fw
attribute [local simp] bv cleanL_bv toBytes_bv ltL_bv atF_drop WS_at_bytes W_nil W_skip W_seq W_reg W_draw W_kill W_keep W_block W_blk W_exit W_ret WX_blk WX_c WX_lp WX_li W_li W_condT W_condF W_cond WC_true WC_false
  WR_nil WR_cons WR_o1 WR_o2 o1_chk o2_chk WR_grd WG_tt WG_ff WG_tf WG_ft WG_none WS_some WS_ok1 WSr_no WSr_some WSr_ok1 WSr_at_bytes WH_some chkF_cons chkF_nil chkE_some chkE_ok1 chkE_at evF WO_mv WO_pick WO_bin WO_isNil WO_eqA WO_un WO_convI WO_toStr WO_ofStr WO_build WO_buildF WO_load WO_nilCheck WO_fieldAddr WO_field WO_idxA WO_idxS
  WO_ixA WO_slS WO_slA WO_len WO_lenK WO_appF WO_extract WO_s2a WO_iface WO_min WO_max WO_alloc WO_box WO_buildO WO_store WO_appO WO_copy WO_makeS WO_func bind1_v bind2_v bindH_v bindH2_v bindS_v okO_v pickO_t pickO_f
  Env.keep Env.get Env.set Env.del Env.dels Env.setO Env.opd Env.opds Env.opdO Env.parts intF aggF fillA splice cleanL AV.clean bndF fldF_one fldF_many toStrF boxF buildOF
  loadF_rptr loadF_rptrN atF_zero atF_succ blk_cons_zero blk_cons_succ loadF_p loadF_pN atB_some atBN_some retPost resL one
  okc_bool cells_bool notStr_bool okc_int cells_int notStr_int okc_str cells_str notStr_str okc_nil cells_nil notStr_nil okc_ptr cells_ptr notStr_ptr okc_rptr cells_rptr notStr_rptr okc_slice cells_slice notStr_slice 
  okc_list cells_list notStr_list okc_func cells_func notStr_func okc_nilFunc cells_nilFunc notStr_nilFunc okc_iface cells_iface notStr_iface okc_nilIface cells_nilIface notStr_nilIface okc_agg cells_agg notStr_agg 
  okc_tuple cells_tuple notStr_tuple lenF_slice lenF_list lenF_str faF_ptr faF_rptr idxSF_slice idxSF_list idxAF_ptr idxAF_rptr ixAF_many ixAF_one convF_int unF_neg unF_xor unF_not nilF_0nil nilF_0ptr nilF_0rptr nilF_1 
  nilF_2nil nilF_2f nilF_3nil nilF_3f binF_int binF_beq binF_bne binF_sadd binF_seq binF_sne sliceCells_list sliceCells_str sliceCells_slice cutC_some szAV_list szAV_str szAV_slice oneSl_list oneSl_slice slSF_sliceS 
  slSF_sliceN slSF_list slAF_rptr slAF_ptr appFF_list appOF_list appOF_sliceN appOF_sliceS storeF_ptr copyF_slice extF_tuple s2aF_slice s2aF_list nchkF_ptr nchkF_rptr nchkF_f mmF_int ofStrF_str mkSF_int eqAF_agg
attribute [local irreducible] W WX WR WO WS WSr WH WG WC FSpec
attribute [local simp] lendAll
attribute [local congr] W_cg WR_cg WO_cg WS_cg WSr_cg WH_cg WG_cg WC_cg WX_cg
attribute [local simp] Env.has AV.wkr wkrL AV.wkr_refl wkrL_refl AV.ltI ltL leHW hasW Env.lt AV.ids idsL AV.sub subL AV.ren AV.frz frzS frzP frzE frzL Heap.frz Blk.frz Blk.ren renL rnS rnP hasR leR idsL_bv subL_bv
attribute [local simp] cleanL_take cleanL_drop ltL_take ltL_drop idsL_take idsL_drop subL_take subL_drop cleanL_append ltL_append idsL_append subL_append
attribute [local simp] renE mvN mvH
attribute [local simp] fwd backH putL bwd
attribute [local simp] u8i u8e List.idxOf_cons
attribute [local simp] hasRW leRW
theorem bls_get (l : List (List UInt8)) (i : Nat) (x : List UInt8) (h : l[i]? = some x) : (bls l)[i]? = some (.list 1 ⟨false, false, false⟩ (x.map bv)) := by simp [bls, h]
theorem fEvents_spec (b : List UInt8) (md : Md) (hm : md.bw = false) (most : Nat) (hb : b.length < 2 ^ 20) : FSpec Try.prog 27 [.list 1 md (b.map bv), .int .i64 most] [] (.list 3 ⟨false, false, false⟩ (evs ((partsF [] b).flatMap (partG most [])))) [] := by
  refine FSpec.of_W fEvents_low (by simp) ?_
  simp only [initEnv]
  simp
  refine WO_callP [] rfl rfl (fParts_spec b md hm (by omega)) (by simp) (by simp) ?_
  obtain ⟨hl, hp⟩ := partsF_len b []
  generalize partsF [] b = l at *
  simp
  refine W_loop (X := { s : Nat × List Ev // s.1 ≤ l.length ∧ s.2.length ≤ s.1 * 2 ^ 20 ∧ s.2 ++ (l.drop s.1).flatMap (partG most []) = l.flatMap (partG most []) })
    (fun s => [(1, .int .i64 most), (5, .slice 3 0 0 s.1.2.length none), (6, .list 1 ⟨false, false, false⟩ (bls l)), (7, .int .i64 s.1.1)]) (fun s => [some ⟨evs s.1.2, 64, false⟩]) (fun s => l.length - s.1.1) ⟨(0, []), by simp, by simp, by simp⟩ retPost_le ?_ ?_
  · refine cut_trans (cut_ghost 5 3 64 (by simp) rfl rfl) (cut_w ?_)
    simp
  · rintro ⟨⟨i, out⟩, hi, ho, he⟩
    simp only at hi ho he ⊢
    by_cases hlt : i < l.length
    · obtain ⟨x, r, hd⟩ : ∃ c r, l.drop i = c :: r := ⟨l[i], l.drop (i+1), by simp⟩
      have hd2 : l.drop (i + 1) = r := by rw [← List.drop_drop, hd]; rfl
      have hx := hp x (List.mem_of_mem_drop (by rw [hd]; simp : x ∈ l.drop i))
      simp at hx
      simp [hlt, hd]
      refine WO_callP [] rfl rfl (fPart_spec x _ most (by omega)) (by simp) (by simp) ?_
      have hg := partG_len most [] x
      have w1 : IntKind.i64.wrap ((i : Int) + 1) = (i : Int) + 1 := wrap64 (by omega) (by omega)
      rw [hd, List.flatMap_cons, ← List.append_assoc] at he
      generalize partG most [] x = g at *
      simp [w1, List.take_of_length_le]
      repeat (refine ⟨by omega, ?_⟩)
      refine ⟨⟨(i + 1, out ++ g), by simp; omega, by simp; omega, by simp only [hd2]; exact he⟩, by simp; omega, ?_⟩
      refine cut_rw [1] (by simp) rfl (by simp) ?_
      simp [evs_append]
    · rw [List.drop_of_length_le (by omega)] at he
      simp [hlt]
      simp at he
      rw [← he]
      exact fin_sl 0 rfl (by simp) (wkrL_refl _) (by simp)
theorem feeds_app (most : Int) : ∀ (a b : List UInt8) (s : List UInt8 × Bool × Bool), feedsF most s (a ++ b) = ((feedsF most s a).1 ++ (feedsF most (feedsF most s a).2 b).1, (feedsF most (feedsF most s a).2 b).2)
  | [], b, s => by simp [feedsF]
  | c :: a, b, s => by simp [feedsF, feeds_app most a b]
theorem feeds_skip (most : Int) (suf : List UInt8) (hs : suf = [] ∨ suf = [192]) : ∀ a : List UInt8, (∀ c ∈ a, ¬ c = 192) → (feedsF most ([], false, true) (a ++ suf)).1 = zer (a ++ suf).length ∧ (suf = [192] → (feedsF most ([], false, true) (a ++ suf)).2 = ([], false, false))
  | [], _ => by
    rcases hs with rfl | rfl
    · simp [feedsF, zer]
    · simp [feedsF, feedF, evOf, zer]
  | c :: a, h => by
    have hc := h c (by simp)
    have ih := feeds_skip most suf hs a fun d hd => h d (by simp [hd])
    simp only [List.cons_append, feedsF]
    rw [show feedF most ([], false, true) c = (([], 0), [], false, true) by simp [feedF, hc]]
    simp only
    refine ⟨?_, ih.2⟩
    rw [ih.1, show evOf ([], 0) = ⟨0, [], 0⟩ from rfl, zer_cons]; simp
theorem feeds_part (most : Nat) (suf : List UInt8) (hs : suf = [] ∨ suf = [192]) : ∀ (n : Nat) (a text : List UInt8), a.length ≤ n → (∀ c ∈ a, ¬ c = 192) → text.length ≤ most →
    (feedsF most (text, false, false) (a ++ suf)).1 = partG most text (a ++ suf) ∧ (suf = [192] → (feedsF most (text, false, false) (a ++ suf)).2 = ([], false, false)) := by
  intro n
  induction n with
  | zero =>
    intro a text ha _ ht
    have : a = [] := List.length_eq_zero_iff.1 (by omega)
    subst this
    rcases hs with rfl | rfl
    · simp [feedsF, partG]
    · unfold partG
      by_cases h : 0 < text.length
      · simp [feedsF, feedF, evOf, h, zer]
      · simp [feedsF, feedF, evOf, h, zer]
  | succ n ih =>
    intro a text ha hn ht
    rcases a with _ | ⟨c, a⟩
    · rcases hs with rfl | rfl
      · simp [feedsF, partG]
      · unfold partG
        by_cases h : 0 < text.length
        · simp [feedsF, feedF, evOf, h, zer]
        · simp [feedsF, feedF, evOf, h, zer]
    have hc := hn c (by simp)
    simp only [List.length_cons] at ha
    have hna : ∀ d ∈ a, ¬ d = 192 := fun d hd => hn d (by simp [hd])
    simp only [List.cons_append]
    -- a byte that is pushed, and what is behind it
    have push : ∀ (x : UInt8) (rest : List UInt8), rest.length ≤ n → (∀ d ∈ rest, ¬ d = 192) →
        (evOf (pushF most text x).1 :: (feedsF most (pushF most text x).2 (rest ++ suf)).1 = (if text.length = most then ⟨2, [], 17⟩ :: zer (rest ++ suf).length else ⟨0, [], 0⟩ :: partG most (text ++ [x]) (rest ++ suf))) ∧
        (suf = [192] → (feedsF most (pushF most text x).2 (rest ++ suf)).2 = ([], false, false)) := by
      intro x rest hr hnr
      by_cases hm : text.length = most
      · have h1 : pushF most text x = (([], 17), [], false, true) := by simp [pushF, hm]
        obtain ⟨g1, g2⟩ := feeds_skip most suf hs rest hnr
        rw [h1, if_pos hm]
        exact ⟨by rw [g1]; rfl, g2⟩
      · have h1 : pushF most text x = (([], 0), text ++ [x], false, false) := by simp [pushF]; omega
        obtain ⟨g1, g2⟩ := ih rest (text ++ [x]) hr hnr (by simp; omega)
        rw [h1, if_neg hm]
        exact ⟨by rw [g1]; rfl, g2⟩
    unfold partG
    rw [if_neg hc]
    by_cases h219 : c = 219
    · subst h219
      rw [if_pos rfl]
      simp only [feedsF]
      rw [show feedF most (text, false, false) 219 = (([], 0), text, true, false) by simp [feedF]]
      simp only
      rcases a with _ | ⟨d, a⟩
      · rcases hs with rfl | rfl
        · simp [feedsF, evOf]
        · simp [feedsF, feedF, evOf, zer]
      · have hd := hna d (by simp)
        have hnb : ∀ e ∈ a, ¬ e = 192 := fun e he => hna e (by simp [he])
        simp only [List.length_cons] at ha
        simp only [List.cons_append, feedsF]
        by_cases h4 : d = 220
        · subst h4
          obtain ⟨g1, g2⟩ := push 192 a (by omega) hnb
          rw [show feedF most (text, true, false) 220 = pushF most text 192 by simp [feedF]]
          refine ⟨?_, g2⟩
          rw [g1]
          split <;> simp_all [evOf]
        · by_cases h5 : d = 221
          · subst h5
            obtain ⟨g1, g2⟩ := push 219 a (by omega) hnb
            rw [show feedF most (text, true, false) 221 = pushF most text 219 by simp [feedF]]
            refine ⟨?_, g2⟩
            rw [g1]
            split <;> simp_all [evOf]
          · obtain ⟨g1, g2⟩ := feeds_skip most suf hs a hnb
            rw [show feedF most (text, true, false) d = (([], 7), [], false, true) by simp [feedF, h4, h5, hd]]
            refine ⟨?_, g2⟩
            simp only
            rw [g1, if_pos ⟨h4, h5⟩]
            rfl
    · rw [if_neg h219]
      simp only [feedsF]
      rw [show feedF most (text, false, false) c = pushF most text c by simp [feedF, hc, h219]]
      exact push c a (by omega) hna
theorem partsF_app : ∀ (a cur r : List UInt8), (∀ c ∈ a, ¬ c = 192) → partsF cur (a ++ 192 :: r) = (cur ++ a ++ [192]) :: partsF [] r
  | [], cur, r, _ => by simp [partsF]
  | c :: a, cur, r, h => by
    simp only [List.cons_append]
    rw [partsF, if_neg (h c (by simp)), partsF_app a _ r fun d hd => h d (by simp [hd])]
    simp
theorem partsF_no : ∀ (a cur : List UInt8), (∀ c ∈ a, ¬ c = 192) → partsF cur a = [cur ++ a]
  | [], cur, _ => by simp [partsF]
  | c :: a, cur, h => by
    rw [partsF, if_neg (h c (by simp)), partsF_no a _ fun d hd => h d (by simp [hd])]
    simp
theorem cut_at (b : List UInt8) : (∀ c ∈ b, ¬ c = 192) ∨ ∃ a r, b = a ++ 192 :: r ∧ (∀ c ∈ a, ¬ c = 192) := by
  induction b with
  | nil => exact .inl (by simp)
  | cons c b ih =>
    by_cases hc : c = 192
    · exact .inr ⟨[], b, by simp [hc], by simp⟩
    · rcases ih with h | ⟨a, r, rfl, h⟩
      · exact .inl fun d hd => by
          rcases List.mem_cons.1 hd with rfl | hd
          · exact hc
          · exact h d hd
      · exact .inr ⟨c :: a, r, by simp, fun d hd => by
          rcases List.mem_cons.1 hd with rfl | hd
          · exact hc
          · exact h d hd⟩
/-- What bytes bring a decoder is what the document says. -/
theorem feeds_events (most : Nat) : ∀ (n : Nat) (b : List UInt8), b.length ≤ n → (feedsF most ([], false, false) b).1 = (partsF [] b).flatMap (partG most []) := by
  intro n
  induction n with
  | zero =>
    intro b hb
    have : b = [] := List.length_eq_zero_iff.1 (by omega)
    subst this
    simp [feedsF, partsF, partG]
  | succ n ih =>
    intro b hb
    rcases cut_at b with h | ⟨a, r, rfl, h⟩
    · rw [partsF_no b [] h]
      have := (feeds_part most [] (.inl rfl) b.length b [] (by omega) h (by simp)).1
      simpa using this
    · rw [partsF_app a [] r h, List.flatMap_cons]
      obtain ⟨g1, g2⟩ := feeds_part most [192] (.inr rfl) a.length a [] (by omega) h (by simp)
      rw [show a ++ 192 :: r = (a ++ [192]) ++ r by simp, feeds_app, g1, g2 rfl, ih r (by simp at hb; omega)]
      simp
end Go.Proofs.Ytlffcidcopibmaa
