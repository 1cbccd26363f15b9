/-
  feed
-/
import Derived.Test.YtlffcidcopibmaaT20
set_option linter.unusedSimpArgs false
set_option linter.unusedVariables false
set_option linter.unusedSectionVars false
namespace Go.Proofs.Ytlffcidcopibmaa
open Go Go.Fw
attribute [local simp] bv cleanL_bv toBytes_bv ltL_bv atF_drop WS_at_bytes W_nil W_skip W_seq W_reg W_draw W_kill W_keep W_block W_blk W_exit W_ret WX_blk WX_c WX_lp WX_li W_li W_condT W_condF W_cond WC_true WC_false
  WR_nil WR_cons WR_o1 WR_o2 o1_chk o2_chk WR_grd WG_tt WG_ff WG_tf WG_ft WG_none WS_some WS_ok1 WSr_no WSr_some WSr_ok1 WSr_at_bytes WH_some chkF_cons chkF_nil chkE_some chkE_ok1 chkE_at evF WO_mv WO_pick WO_bin WO_isNil WO_eqA WO_un WO_convI WO_toStr WO_ofStr WO_build WO_buildF WO_load WO_nilCheck WO_fieldAddr WO_field WO_idxA WO_idxS
  WO_ixA WO_slS WO_slA WO_len WO_lenK WO_appF WO_extract WO_s2a WO_iface WO_min WO_max WO_alloc WO_box WO_buildO WO_store WO_appO WO_copy WO_makeS WO_func bind1_v bind2_v bindH_v bindH2_v bindS_v okO_v pickO_t pickO_f
  Env.keep Env.get Env.set Env.del Env.dels Env.setO Env.opd Env.opds Env.opdO Env.parts intF aggF fillA splice cleanL AV.clean bndF fldF_one fldF_many toStrF boxF buildOF
  loadF_rptr loadF_rptrN atF_zero atF_succ blk_cons_zero blk_cons_succ loadF_p loadF_pN atB_some atBN_some retPost resL one
  okc_bool cells_bool notStr_bool okc_int cells_int notStr_int okc_str cells_str notStr_str okc_nil cells_nil notStr_nil okc_ptr cells_ptr notStr_ptr okc_rptr cells_rptr notStr_rptr okc_slice cells_slice notStr_slice 
  okc_list cells_list notStr_list okc_func cells_func notStr_func okc_nilFunc cells_nilFunc notStr_nilFunc okc_iface cells_iface notStr_iface okc_nilIface cells_nilIface notStr_nilIface okc_agg cells_agg notStr_agg 
  okc_tuple cells_tuple notStr_tuple lenF_slice lenF_list lenF_str faF_ptr faF_rptr idxSF_slice idxSF_list idxAF_ptr idxAF_rptr ixAF_many ixAF_one convF_int unF_neg unF_xor unF_not nilF_0nil nilF_0ptr nilF_0rptr nilF_1 
  nilF_2nil nilF_2f nilF_3nil nilF_3f binF_int binF_beq binF_bne binF_sadd binF_seq binF_sne sliceCells_list sliceCells_str sliceCells_slice cutC_some szAV_list szAV_str szAV_slice oneSl_list oneSl_slice slSF_sliceS 
  slSF_sliceN slSF_list slAF_rptr slAF_ptr appFF_list appOF_list appOF_sliceN appOF_sliceS storeF_ptr copyF_slice extF_tuple s2aF_slice s2aF_list nchkF_ptr nchkF_rptr nchkF_f mmF_int ofStrF_str mkSF_int eqAF_agg
attribute [local irreducible] W WX WR WO WS WSr WH WG WC FSpec
attribute [local simp] lendAll
attribute [local congr] W_cg WR_cg WO_cg WS_cg WSr_cg WH_cg WG_cg WC_cg WX_cg
attribute [local simp] Env.has AV.wkr wkrL AV.wkr_refl wkrL_refl AV.ltI ltL leHW hasW Env.lt AV.ids idsL AV.sub subL AV.ren AV.frz frzS frzP frzE frzL Heap.frz Blk.frz Blk.ren renL rnS rnP hasR leR idsL_bv subL_bv
attribute [local simp] cleanL_take cleanL_drop ltL_take ltL_drop idsL_take idsL_drop subL_take subL_drop cleanL_append ltL_append idsL_append subL_append
attribute [local simp] renE mvN mvH
attribute [local simp] fwd backH putL bwd
attribute [local simp] u8i u8e List.idxOf_cons
attribute [local simp] hasRW leRW
/-- What a byte brings. -/
structure Ev where
  kind : Int
  frame : List UInt8
  err : Int
  deriving DecidableEq
def evs1 (x : Ev) : List AV := [.int .i64 x.kind, .list 1 ⟨false, false, false⟩ (x.frame.map bv), .int .i64 x.err]
def evs (l : List Ev) : List AV := l.flatMap evs1
@[simp] theorem evs_nil : evs [] = [] := rfl
@[simp] theorem evs_cons (x : Ev) (l : List Ev) : evs (x :: l) = evs1 x ++ evs l := by simp [evs]
@[simp] theorem evs1_length (x : Ev) : (evs1 x).length = 3 := rfl
@[simp] theorem evs_length (l : List Ev) : (evs l).length = l.length * 3 := by
  induction l with
  | nil => rfl
  | cons i l ih => simp [ih]; omega
@[simp] theorem evs_drop (l : List Ev) (i : Nat) : (evs l).drop (i * 3) = evs (l.drop i) := by
  induction l generalizing i with
  | nil => simp
  | cons x l ih =>
    cases i with
    | zero => simp
    | succ i => rw [evs_cons, List.drop_succ_cons, ← ih i, show (i + 1) * 3 = (evs1 x).length + i * 3 by rw [evs1_length]; omega, List.drop_length_add_append]
@[simp] theorem evs_take (l : List Ev) (i : Nat) : (evs l).take (i * 3) = evs (l.take i) := by
  induction l generalizing i with
  | nil => simp
  | cons x l ih =>
    cases i with
    | zero => simp
    | succ i => rw [evs_cons, List.take_succ_cons, evs_cons, ← ih i, show (i + 1) * 3 = (evs1 x).length + i * 3 by rw [evs1_length]; omega, List.take_length_add_append]
theorem evs_append (a b : List Ev) : evs (a ++ b) = evs a ++ evs b := by simp [evs]
@[simp] theorem ltL_evs (n : Nat) (l : List Ev) : ltL n (evs l) = true := ltL_flatMap _ fun x => by simp [evs1, ltL, AV.ltI]
@[simp] theorem ids_evs (q : Nat → Bool) (l : List Ev) : idsL q (evs l) = true := idsL_flatMap _ fun x => by simp [evs1, idsL, AV.ids, idsL_bv]
@[simp] theorem sub_evs (s : Nat → Nat → Nat → Nat → Option Nat → AV) (p : Nat → Nat → AV) (l : List Ev) : subL s p (evs l) = evs l := subL_flatMap _ fun x => by simp [evs1, subL, AV.sub, subL_bv]
@[simp] theorem cleanL_evs (l : List Ev) : cleanL (evs l) = true := cleanL_flatMap _ fun x => by simp [evs1]
theorem evs_put (l : List Ev) (i : Nat) (vs : List AV) (hv : vs.length = 3) (h : i < l.length) : splice (evs l) (i * 3) vs = evs (l.take i) ++ vs ++ evs (l.drop (i + 1)) := by
  rw [splice_take_drop _ _ _ (by simp [hv]; omega), evs_take, hv, show i * 3 + 3 = (i + 1) * 3 by omega, evs_drop]
theorem evs_set (l : List Ev) (i : Nat) (x : Ev) (h : i < l.length) : splice (evs l) (i * 3) (evs1 x) = evs (l.set i x) := by
  rw [evs_put l i _ (evs1_length x) h, List.set_eq_take_append_cons_drop, if_pos h]
  simp [evs_append]
theorem fNew_bad (most : Int) (h : most < 1 ∨ 65536 < most) : FSpec Try.prog 24 [.int .i64 most] [] (.tuple [.nil, .int .i64 1]) [] := by
  refine FSpec.of_W fNew_low (by simp) ?_
  simp only [initEnv]
  by_cases h1 : most < 1
  · simp [h1]
    exact fin_W (by simp)
  · simp [h1, h.resolve_left h1]
    exact fin_W (by simp)
theorem fNew_spec (most : Int) (h1 : ¬ most < 1) (h2 : ¬ 65536 < most) : FSpec Try.prog 24 [.int .i64 most] [] (.tuple [.ptr 0 0, .int .i64 0]) (dH [] most false false) := by
  refine FSpec.of_W fNew_low (by simp) ?_
  simp only [initEnv]
  simp [h1, h2]
  refine fin_ghostB 0 0 1 5 (by simp) rfl rfl rfl (fin_W ?_)
  simp [dH]
theorem fSameE_spec (a b : List Ev) (m1 m2 : Md) (ha : a.length < 2 ^ 62) (hb : b.length < 2 ^ 62) : FSpec Try.prog 25 [.list 3 m1 (evs a), .list 3 m2 (evs b)] [] (.bool (decide (a = b))) [] := by
  refine FSpec.of_W fSameE_low (by simp) ?_
  simp only [initEnv]
  simp
  refine WC_ndec (fun h => ?_) (fun h => ?_)
  · have : ¬ a = b := fun q => h (by rw [q])
    simp
    refine fin_W ?_
    simp [this]
  · have hl : a.length = b.length := by omega
    simp
    refine W_loop (X := { i : Nat // i ≤ a.length ∧ a.take i = b.take i })
      (fun x => [(0, .list 3 m1 (evs a)), (1, .list 3 m2 (evs b)), (12, .int .i64 a.length), (13, .int .i64 x.1)]) (fun _ => []) (fun x => a.length - x.1) ⟨0, by simp, by simp⟩ retPost_le ?_ ?_
    · refine cut_w ?_
      simp
    · rintro ⟨i, hi, he⟩
      simp only at hi he ⊢
      simp
      refine WC_dec (fun hlt => ?_) (fun hlt => ?_)
      · obtain ⟨x, r, hr⟩ : ∃ x r, a.drop i = x :: r := ⟨a[i], a.drop (i+1), by simp⟩
        obtain ⟨y, s, hs⟩ : ∃ y s, b.drop i = y :: s := ⟨b[i]'(by omega), b.drop (i+1), by simp⟩
        have hab : a = a.take i ++ x :: r := by rw [← hr, List.take_append_drop]
        have hbb : b = a.take i ++ y :: s := by rw [he, ← hs, List.take_append_drop]
        have ne : ¬ x = y → ¬ a = b := fun hk q => hk (by rw [q, hs] at hr; cases hr; rfl)
        by_cases h1 : x.kind = y.kind
        · by_cases h2 : x.err = y.err
          · by_cases h3 : x.frame = y.frame
            · have hxy : x = y := by cases x; cases y; simp only [Ev.mk.injEq]; exact ⟨h1, h3, h2⟩
              simp [hr, hs, evs1, h1, h2, h3]
              repeat (refine ⟨by omega, ?_⟩)
              refine ⟨⟨i + 1, by omega, ?_⟩, by simp; omega, ?_⟩
              · rw [List.take_add_one, List.take_add_one, he, ← Nat.add_zero i, ← List.getElem?_drop, ← List.getElem?_drop, hr, hs, hxy]; rfl
              · refine cut_w ?_
                simp
                rw [wrap64 (by omega) (by omega)]
            · simp [hr, hs, evs1, h1, h2, h3]
              repeat (refine ⟨by omega, ?_⟩)
              refine fin_W ?_
              have := ne (fun q => h3 (by rw [q]))
              simp [this]
          · simp [hr, hs, evs1, h1, h2]
            repeat (refine ⟨by omega, ?_⟩)
            refine fin_W ?_
            have := ne (fun q => h2 (by rw [q]))
            simp [this]
        · simp [hr, hs, evs1, h1]
          repeat (refine ⟨by omega, ?_⟩)
          refine fin_W ?_
          have := ne (fun q => h1 (by rw [q]))
          simp [this]
      · rw [List.take_of_length_le (by omega), List.take_of_length_le (by omega)] at he
        simp
        refine fin_W ?_
        simp [he]
/-- What bytes bring a decoder. -/
def evOf (r : List UInt8 × Int) : Ev := if ¬ r.2 = 0 then ⟨2, r.1, r.2⟩ else if 0 < r.1.length then ⟨1, r.1, 0⟩ else ⟨0, [], 0⟩
def feedsF (most : Int) : List UInt8 × Bool × Bool → List UInt8 → List Ev × List UInt8 × Bool × Bool
  | s, [] => ([], s)
  | s, c :: b => (evOf (feedF most s c).1 :: (feedsF most (feedF most s c).2 b).1, (feedsF most (feedF most s c).2 b).2)
theorem feedF_len (most : Int) (tx : List UInt8) (es sk : Bool) (c : UInt8) : (feedF most (tx, es, sk) c).2.1.length ≤ tx.length + 1 := by
  have hp : ∀ x, (pushF most tx x).2.1.length ≤ tx.length + 1 := fun x => by unfold pushF; split <;> simp
  unfold feedF
  repeat' split
  all_goals first | exact hp _ | (simp; done) | (simp; omega)
theorem fFeedL_spec (text : List UInt8) (most : Int) (esc skips : Bool) (b : List UInt8) (md : Md) (h : text.length + b.length < 2 ^ 39) : FSpec Try.prog 26 [.ptr 0 0, .list 1 md (b.map bv)] (dH text most esc skips) (.list 3 ⟨false, false, false⟩ (evs (feedsF most (text, esc, skips) b).1))
    (dH' (feedsF most (text, esc, skips) b).2.1 most (feedsF most (text, esc, skips) b).2.2.1 (feedsF most (text, esc, skips) b).2.2.2) := by
  refine FSpec.of_W fFeedL_low (by simp) ?_
  simp only [initEnv]
  simp
  refine W_loop (X := { s : Nat × List Ev × List UInt8 × Bool × Bool // s.1 ≤ b.length ∧ s.2.1.length ≤ s.1 ∧ s.2.2.1.length ≤ text.length + s.1 ∧ (s.2.1 ++ (feedsF most s.2.2 (b.drop s.1)).1, (feedsF most s.2.2 (b.drop s.1)).2) = feedsF most (text, esc, skips) b })
    (fun s => [(0, .ptr 0 0), (5, .slice 3 3 0 s.1.2.1.length none), (10, .list 1 md (b.map bv)), (11, .int .i64 b.length), (12, .int .i64 s.1.1)]) (fun s => dH' s.1.2.2.1 most s.1.2.2.2.1 s.1.2.2.2.2 ++ [some ⟨evs s.1.2.1, 64, false⟩]) (fun s => b.length - s.1.1) ⟨(0, [], text, esc, skips), by simp, by simp, by simp, by simp⟩ retPost_le ?_ ?_
  · refine cut_trans (cut_move 1 (b := ⟨text.map bv, 5, false⟩) rfl) (cut_trans (cut_ghost 5 3 64 (by simp) rfl rfl) (cut_w ?_))
    simp [dH, dH']
  · rintro ⟨⟨i, out, tx, es, sk⟩, hi, ho, ht, he⟩
    simp only at hi ho ht he ⊢
    simp [dH, dH']
    refine WC_dec (fun hlt => ?_) (fun hlt => ?_)
    · obtain ⟨c, r, hd⟩ : ∃ c r, b.drop i = c :: r := ⟨b[i], b.drop (i+1), by simp⟩
      have hd2 : b.drop (i + 1) = r := by rw [← List.drop_drop, hd]; rfl
      have hc : b[i]? = some c := by rw [← Nat.add_zero i, ← List.getElem?_drop, hd]; rfl
      rw [hd] at he
      simp [hc]
      refine ⟨hlt, ?_⟩
      refine WO_callF [0, 2] rfl rfl (fFeed_spec tx most es sk c (by omega)) (by simp [dH']) (by simp [dH]) (by simp) ?_
      simp only [feedsF] at he
      have hl : (feedF most (tx, es, sk) c).2.1.length ≤ tx.length + 1 := feedF_len _ _ _ _ _
      generalize feedF most (tx, es, sk) c = res at *
      obtain ⟨⟨fr, er⟩, tx', es', sk'⟩ := res
      simp [dH', feedR]
      simp at hl
      have fin1 : ∀ {e : Env} {H0 : Heap} {v : Ev}, v = evOf (fr, er) → Env.get e 0 = some (.ptr 0 0) → Env.get e 5 = some (.slice 3 5 0 (out.length + 1) none) → Env.get e 10 = some (.list 1 md (b.map bv)) → Env.get e 11 = some (.int .i64 b.length) → Env.get e 12 = some (.int .i64 (i + 1)) →
          H0 = [some ⟨[.slice 1 4 0 tx'.length none, .int .i64 most, .bool es', .bool sk'], 84, true⟩, none, none, none, some ⟨tx'.map bv, 5, false⟩, some ⟨evs out ++ evs1 v, 64, false⟩] →
          cut 2 e H0 [(0, .ptr 0 0), (5, .slice 3 3 0 (out ++ [v]).length none), (10, .list 1 md (b.map bv)), (11, .int .i64 b.length), (12, .int .i64 ((i + 1 : Nat) : Int))] [some ⟨[.slice 1 2 0 tx'.length none, .int .i64 most, .bool es', .bool sk'], 84, true⟩, none, some ⟨tx'.map bv, 5, false⟩, some ⟨evs (out ++ [v]), 64, false⟩] := by
        intro e H0 v _ g1 g2 g3 g4 g5 g6
        subst g6
        refine cut_ren [0, 1, 4, 5] (by simp) rfl ?_ ?_
        · simp [g1, g2, g3, g4, g5]
        · simp [evs_append, evs1]
      by_cases h1 : er = 0
      · subst h1
        by_cases h2 : 0 < fr.length
        · have hv : (⟨1, fr, 0⟩ : Ev) = evOf (fr, 0) := by simp [evOf, h2]
          simp [h2]
          rw [wrap64 (by omega) (by omega)]
          repeat (refine ⟨by omega, ?_⟩)
          refine ⟨⟨(i + 1, out ++ [⟨1, fr, 0⟩], tx', es', sk'), by simp; omega, by simp; omega, by simp; omega, ?_⟩, by simp; omega, ?_⟩
          · simp only [hd2]; rw [hv, ← he]; simp
          · refine fin1 hv (by simp) (by simp) (by simp) (by simp) (by simp) ?_
            simp [List.take_of_length_le, evs1]
        · have hv : (⟨0, [], 0⟩ : Ev) = evOf (fr, 0) := by simp [evOf, h2]
          simp [h2]
          rw [wrap64 (by omega) (by omega)]
          repeat (refine ⟨by omega, ?_⟩)
          refine ⟨⟨(i + 1, out ++ [⟨0, [], 0⟩], tx', es', sk'), by simp; omega, by simp; omega, by simp; omega, ?_⟩, by simp; omega, ?_⟩
          · simp only [hd2]; rw [hv, ← he]; simp
          · refine cut_trans (cut_w (e0 := [(0, .ptr 0 0), (5, .slice 3 5 0 (out.length + 1) none), (10, .list 1 md (b.map bv)), (11, .int .i64 b.length), (12, .int .i64 (i + 1))])
              (H0 := [some ⟨[.slice 1 4 0 tx'.length none, .int .i64 most, .bool es', .bool sk'], 84, true⟩, none, none, none, some ⟨tx'.map bv, 5, false⟩, some ⟨evs out ++ evs1 ⟨0, [], 0⟩, 64, false⟩]) ?_) (fin1 hv (by simp) (by simp) (by simp) (by simp) (by simp) rfl)
            simp [List.take_of_length_le, evs1]
            exact wkrL_app _ (by simp)
      · have hv : (⟨2, fr, er⟩ : Ev) = evOf (fr, er) := by simp [evOf, h1]
        simp [h1]
        rw [wrap64 (by omega) (by omega)]
        repeat (refine ⟨by omega, ?_⟩)
        refine ⟨⟨(i + 1, out ++ [⟨2, fr, er⟩], tx', es', sk'), by simp; omega, by simp; omega, by simp; omega, ?_⟩, by simp; omega, ?_⟩
        · simp only [hd2]; rw [hv, ← he]; simp
        · refine fin1 hv (by simp) (by simp) (by simp) (by simp) (by simp) ?_
          simp [List.take_of_length_le, evs1]
    · rw [List.drop_of_length_le (by omega)] at he
      simp [feedsF] at he
      simp [← he]
      refine fin_F 3 rfl (fin_W ?_)
      simp [dH', List.take_of_length_le]
end Go.Proofs.Ytlffcidcopibmaa
