/-
  A bank.
-/
import Derived.Test.YtjehncilahjmdaaB1
import Derived.Test.YtjehncilahjmdaadKB
set_option linter.unusedSimpArgs false
set_option linter.unnecessarySimpa false
set_option linter.unusedVariables false
set_option linter.unusedSectionVars false
namespace Go.Proofs.Ytjehncilahjmdaa
open Go Go.Fw
attribute [local simp] bv cleanL_bv toBytes_bv ltL_bv atF_drop WS_at_bytes W_nil W_skip W_seq W_reg W_draw W_drawP W_kill W_keep W_block W_blk W_exit W_ret WX_blk WX_c WX_lp WX_li W_li W_condT W_condF W_cond WC_true WC_false
  WR_nil WR_cons WR_o1 WR_o2 o1_chk o2_chk WR_grd WG_tt WG_ff WG_tf WG_ft WG_none WS_some WS_ok1 WSr_no WSr_some WSr_ok1 WSr_at_bytes WH_some WHA_some chkF_cons chkF_nil chkE_some chkE_ok1 chkE_at evF WO_mv WO_pick WO_bin WO_isNil WO_eqA WO_un WO_convI WO_toStr WO_ofStr WO_build WO_buildF WO_load WO_nilCheck WO_fieldAddr WO_field WO_idxA WO_idxS
  WO_ixA WO_slS WO_slA WO_len WO_lenK WO_appF WO_extract WO_s2a WO_iface WO_min WO_max WO_alloc WO_box WO_buildO WO_store WO_appO WO_copy WO_makeS WO_allocA WO_makeA WO_cvt cvtF_slice WO_look lookF_map alAF mkAF WO_func bind1_v bind2_v bindH_v bindH2_v bindS_v okO_v pickO_t pickO_f
  Env.keep Env.get Env.set Env.del Env.dels Env.setO Env.opd Env.opds Env.opdO Env.parts intF aggF fillA splice cleanL AV.clean bndF fldF_one fldF_many toStrF boxF buildOF
  loadF_rptr loadF_rptrN atF_zero atF_succ blk_cons_zero blk_cons_succ loadF_p loadF_pN atB_some atBN_some retPost resL one
  okc_bool cells_bool notStr_bool okc_int cells_int notStr_int okc_str cells_str notStr_str okc_nil cells_nil notStr_nil okc_ptr cells_ptr notStr_ptr okc_rptr cells_rptr notStr_rptr okc_slice cells_slice notStr_slice 
  okc_list cells_list notStr_list okc_func cells_func notStr_func okc_nilFunc cells_nilFunc notStr_nilFunc okc_iface cells_iface notStr_iface okc_nilIface cells_nilIface notStr_nilIface okc_agg cells_agg notStr_agg 
  okc_tuple cells_tuple notStr_tuple lenF_slice lenF_list lenF_str faF_ptr faF_rptr idxSF_slice idxSF_list idxAF_ptr idxAF_rptr ixAF_many ixAF_one convF_int unF_neg unF_xor unF_not nilF_0nil nilF_0ptr nilF_0rptr nilF_1 
  nilF_2nil nilF_2f nilF_3nil nilF_3f binF_int binF_beq binF_bne binF_sadd binF_seq binF_sne sliceCells_list sliceCells_str sliceCells_slice cutC_some szAV_list szAV_str szAV_slice oneSl_list oneSl_slice slSF_sliceS 
  slSF_sliceN slSF_list slAF_rptr slAF_ptr appFF_list appOF_list appOF_sliceN appOF_sliceS storeF_ptr copyF_slice extF_tuple s2aF_slice s2aF_list nchkF_ptr nchkF_rptr nchkF_f mmF_int ofStrF_str mkSF_int eqAF_agg
attribute [local irreducible] W WX WR WO WS WSr WH WHA WG WC FSpec
attribute [local simp] lendAll
attribute [local congr] W_cg WR_cg WO_cg WS_cg WSr_cg WH_cg WHA_cg WG_cg WC_cg WX_cg
attribute [local simp] Env.has AV.wkr wkrL AV.wkr_refl wkrL_refl AV.ltI ltL leHW hasW Env.lt AV.ids idsL AV.sub subL AV.ren AV.frz frzS frzP frzE frzL Heap.frz Blk.frz Blk.ren renL rnS rnP hasR leR idsL_bv subL_bv
attribute [local simp] cleanL_take cleanL_drop ltL_take ltL_drop idsL_take idsL_drop subL_take subL_drop cleanL_append ltL_append idsL_append subL_append
attribute [local simp] renE mvN mvH
attribute [local simp] fwd backH putL bwd
attribute [local simp] u8i u8e List.idxOf_cons
attribute [local simp] hasRW leRW
attribute [local simp] WS_at_map WSr_at_map loadWP splice_full Int.natCast_inj
/-- A bank as cells. -/
def bkP (first : Int) : AV := .agg [.ptr 0 0, .int .i64 first]
theorem fBkRight_spec (f : Fl) (hf : f.Ok) (first : Int) : FSpec Try.prog 68 [bkP first] (flP f) (.bool (bkR f first)) (flP f) := by
  have hl := hf.len
  have hp := hf.pages
  have hs := fFlSize_spec f
  refine FSpec.of_W fBkRight_low (by simp) ?_
  simp only [initEnv, bkP]
  simp [flP]
  by_cases c1 : 0 ≤ first
  · have e1 : (f.b.length : Int).tdiv 256 = (f.worn.length : Nat) := by rw [hl]; show ((256 * f.worn.length / 256 : Nat) : Int) = _; omega
    have e2 : IntKind.i64.wrap ((f.worn.length : Nat) : Int) = (f.worn.length : Nat) := wrap64 (by omega) (by omega)
    have e3 : IntKind.i64.wrap ((f.worn.length : Int) - 16) = (f.worn.length : Int) - 16 := wrap64s (by omega) (by omega)
    have e4 : IntKind.i64.wrap ((f.b.length : Int) / 256) = (f.worn.length : Nat) := by rw [show (f.b.length : Int) / 256 = (f.worn.length : Nat) by omega]; exact e2
    simp [c1]
    refine WO_callF [0, 1, 2] rfl rfl hs (by simp [flP]) (by simp [flP]) (by simp [flP]) ?_
    simp [flP, e1, e2, e3, e4]
    exact fin_W (by simp [bkR, c1])
  · simp [c1]
    exact fin_W (by simp [bkR, c1])
theorem fBkBytes_spec (f : Fl) (hf : f.Ok) (first a n : Int) (h1 : -2 ^ 63 ≤ a ∧ a < 2 ^ 63) : FSpec Try.prog 33 [bkP first, .int .i64 a, .int .i64 n] (flP f) (.tuple [.list 1 ⟨false, false, false⟩ ((bkBytes f first a n).1.map bv), .int .i64 (bkBytes f first a n).2]) (flP f) := by
  have hl := hf.len
  have hp := hf.pages
  have hs := fBkRight_spec f hf first
  obtain ⟨R, hR⟩ : ∃ R, R = bkBytes f first a n := ⟨_, rfl⟩
  rw [← hR]
  unfold bkBytes at hR
  refine FSpec.of_W fBkBytes_low (by simp) ?_
  simp only [initEnv, bkP] at hs ⊢
  simp [flP]
  refine WO_callF [0, 1, 2] rfl rfl hs (by simp [flP]) (by simp [flP]) (by simp) ?_
  simp [flP]
  cases hr : bkR f first
  · rw [if_pos hr] at hR
    rw [hR]
    simp
    exact fin_W (by simp)
  rw [if_neg (by simp [hr])] at hR
  simp only [bkR, decide_eq_true_eq] at hr
  simp
  have e0 : 0 ≤ a → a ≤ 4096 → IntKind.i64.wrap (4096 - a) = 4096 - a := fun _ _ => wrap64s (by omega) (by omega)
  by_cases c1 : a < 0
  · rw [if_pos (.inl c1)] at hR
    rw [hR]
    simp [c1]
    exact fin_W (by simp)
  by_cases c2 : n < 0
  · rw [if_pos (.inr (.inl c2))] at hR
    rw [hR]
    simp [c1, c2]
    exact fin_W (by simp)
  by_cases c3 : 4096 < a
  · rw [if_pos (.inr (.inr (.inl c3)))] at hR
    rw [hR]
    simp [c1, c2, c3]
    exact fin_W (by simp)
  by_cases c4 : 4096 - a < n
  · rw [if_pos (.inr (.inr (.inr c4)))] at hR
    rw [hR]
    simp [c1, c2, c3, c4, e0 (by omega) (by omega)]
    exact fin_W (by simp)
  rw [if_neg (by omega)] at hR
  have e1 : IntKind.i64.wrap (first * 256) = first * 256 := wrap64s (by omega) (by omega)
  have e2 : IntKind.i64.wrap (first * 256 + a) = first * 256 + a := wrap64s (by omega) (by omega)
  have hrd := fFlRead_spec f hf (first * 256 + a) n (by omega)
  rw [← hR] at hrd
  obtain ⟨x, e⟩ := R
  simp [c1, c2, c3, c4, e0 (by omega) (by omega), e1, e2]
  refine WO_callF [0, 1, 2] rfl rfl hrd (by simp [flP]) (by simp [flP]) (by simp) ?_
  simp [flP]
  exact fin_W (by simp)
set_option maxRecDepth 100000 in
theorem fBkClear_spec (f : Fl) (hf : f.Ok) (first a b : Int) : FSpec Try.prog 36 [bkP first, .int .i64 a, .int .i64 b] (flP f) (.int .i64 (bkClear f first a b).1) (flP (bkClear f first a b).2) := by
  have hl := hf.len
  have hp := hf.pages
  have hs := fBkRight_spec f hf first
  obtain ⟨R, hR⟩ : ∃ R, R = bkClear f first a b := ⟨_, rfl⟩
  rw [← hR]
  unfold bkClear at hR
  refine FSpec.of_W fBkClear_low (by simp) ?_
  simp only [initEnv, bkP] at hs ⊢
  simp [flP]
  refine WO_callF [0, 1, 2] rfl rfl hs (by simp [flP]) (by simp [flP]) (by simp) ?_
  simp [flP]
  cases hr : bkR f first
  · rw [if_pos (.inl hr)] at hR
    rw [hR]
    simp
    exact fin_W (by simp [flP])
  by_cases c1 : a < 0
  · rw [if_pos (.inr (.inl c1))] at hR
    rw [hR]
    simp [c1]
    exact fin_W (by simp [flP])
  by_cases c2 : b < a
  · rw [if_pos (.inr (.inr (.inl c2)))] at hR
    rw [hR]
    simp [c1, c2]
    exact fin_W (by simp [flP])
  by_cases c3 : 16 < b
  · rw [if_pos (.inr (.inr (.inr c3)))] at hR
    rw [hR]
    simp [c1, c2, c3]
    exact fin_W (by simp [flP])
  rw [if_neg (by simp [hr, c1, c2, c3])] at hR
  simp only [bkR, decide_eq_true_eq] at hr
  simp [c1, c2, c3]
  refine W_loop (X := { x : Int × Fl // a ≤ x.1 ∧ x.1 ≤ b ∧ x.2.Ok ∧ R = clearF first (b - x.1).toNat x.1 x.2 }) (fun x => [(2, .int .i64 b), (3, .ptr 3 0), (7, .int .i64 x.1.1)]) (fun x => flP x.1.2 ++ [some ⟨[.ptr 0 0, .int .i64 first], 63, true⟩]) (fun x => (b - x.1.1).toNat) ⟨(a, f), by simp, by simp only; omega, hf, hR⟩ retPost_le ?_ ?_
  · refine cut_w ?_
    simp [flP]
  · rintro ⟨⟨p, g⟩, hp1, hp2, hg, hK⟩
    simp only at hp1 hp2 hg hK
    simp [flP]
    refine WC_dec (fun hlt => ?_) (fun hlt => ?_)
    · have e1 : IntKind.i64.wrap (first + p) = first + p := wrap64s (by omega) (by omega)
      have e2 : IntKind.i64.wrap (p + 1) = p + 1 := wrap64s (by omega) (by omega)
      have he := fFlErase_spec g hg (first + p) (by omega)
      have hok := (eraseF_ok hg (first + p)).1
      rw [show (b - p).toNat = (b - (p + 1)).toNat + 1 by omega, clearF] at hK
      generalize eraseF g (first + p) = x at *
      obtain ⟨e, g2⟩ := x
      simp only at he hok hK
      simp [e1]
      refine WO_callF [0, 1, 2] rfl rfl he (by simp [flP]) (by simp [flP]) (by simp) ?_
      simp [flP]
      refine WC_ndec (fun hq => ?_) (fun hq => ?_)
      · rw [if_pos hq] at hK
        subst hK
        simp
        exact fin_W (by simp [flP])
      · rw [if_neg (fun z => z hq)] at hK
        simp
        exact ⟨⟨(p + 1, g2), by show a ≤ p + 1; omega, by show p + 1 ≤ b; omega, hok, hK⟩, by simp; omega, cut_w (by simp [flP, e2])⟩
    · rw [show (b - p).toNat = 0 by omega, clearF] at hK
      subst hK
      simp
      exact fin_W (by simp [flP])
/-- The parts that are behind one another so far. -/
def bwV (n i : Nat) : AV := if i = 0 then .list 1 ⟨true, true, false⟩ [] else .slice 1 4 0 n none
def bwH (b : List UInt8) (i : Nat) : Heap := if i = 0 then [] else [some ⟨b.map bv, 5, false⟩]
set_option maxRecDepth 100000 in
set_option maxHeartbeats 2000000 in
theorem fBkWrite_spec (f : Fl) (hf : f.Ok) (first a : Int) (l : List (Md × List UInt8)) (md : Md) (hl0 : 0 < l.length) (hl : l.length < 2 ^ 40) (hb : (allB l).length < 2 ^ 40) : FSpec Try.prog 37 [bkP first, .int .i64 a, .list 1 md (l.map lsV)] (flP f) (.int .i64 (bkWrite f first a (allB l)).1) (flP (bkWrite f first a (allB l)).2) := by
  have hlen := hf.len
  have hp := hf.pages
  have hs := fBkRight_spec f hf first
  obtain ⟨R, hR⟩ : ∃ R, R = bkWrite f first a (allB l) := ⟨_, rfl⟩
  rw [← hR]
  unfold bkWrite at hR
  refine FSpec.of_W fBkWrite_low (by simp) ?_
  simp only [initEnv, bkP] at hs ⊢
  simp [flP]
  refine W_loop (X := { i : Nat // i ≤ l.length }) (fun i => [(1, .int .i64 a), (3, .ptr 3 0), (7, bwV (allB (l.take i.1)).length i.1), (10, .list 1 md (l.map lsV)), (11, .int .i64 (l.length : Nat)), (12, .int .i64 (i.1 : Nat))]) (fun i => flP f ++ [some ⟨[.ptr 0 0, .int .i64 first], 63, true⟩] ++ bwH (allB (l.take i.1)) i.1) (fun i => l.length - i.1) ⟨0, by omega⟩ retPost_le ?_ ?_
  · refine cut_w ?_
    simp [flP, bwV, bwH]
  · rintro ⟨i, hi⟩
    simp only
    simp
    refine WC_dec (fun hlt => ?_) (fun hlt => ?_)
    · have w1 : IntKind.i64.wrap ((i : Int) + 1) = (i : Int) + 1 := wrap64s (by omega) (by omega)
      have hx : l[i]? = some l[i] := List.getElem?_eq_getElem (by omega)
      have hat := allB_take l i (by omega)
      have hle := allB_le l (i + 1)
      obtain ⟨x, hxe⟩ : ∃ x, x = l[i] := ⟨_, rfl⟩
      rw [← hxe] at hx hat
      obtain ⟨B, hB⟩ : ∃ B, B = allB (l.take i) := ⟨_, rfl⟩
      rw [← hB] at hat
      rw [hat, List.length_append] at hle
      rw [← hB]
      by_cases h0 : i = 0
      · subst h0
        have hB0 : B = [] := by rw [hB]; rfl
        subst hB0
        simp [flP, bwV, bwH, hx, lsV]
        repeat (refine ⟨by omega, ?_⟩)
        rw [List.nil_append] at hat
        refine ⟨⟨1, by omega⟩, by simp; omega, cut_w ?_⟩
        simp [flP, bwV, bwH, hat, show IntKind.i64.wrap 1 = 1 from rfl]
      · have htk : List.take B.length (List.map bv B) = List.map bv B := List.take_of_length_le (by simp)
        simp [flP, bwV, bwH, h0, hx, lsV, htk]
        repeat (refine ⟨by omega, ?_⟩)
        refine ⟨⟨i + 1, by omega⟩, by simp; omega, ?_⟩
        refine cut_rw [0, 1, 2, 3, 5] (by simp) rfl (by simp [w1, hat]) ?_
        simp [flP, bwV, bwH, hat, w1]
    · have : i = l.length := by omega
      subst this
      have hln : l ≠ [] := fun z => by rw [z] at hl0; simp at hl0
      rw [List.take_length]
      obtain ⟨B, hB⟩ : ∃ B, B = allB l := ⟨_, rfl⟩
      rw [← hB] at hR hb ⊢
      simp [flP, bwV, bwH, hln]
      refine WO_callF [0, 1, 2] rfl rfl hs (by simp [flP]) (by simp [flP]) (by simp) ?_
      simp [flP]
      cases hr : bkR f first
      · rw [if_pos hr] at hR
        rw [hR]
        simp
        exact fin_W (by simp [flP])
      rw [if_neg (by simp [hr])] at hR
      simp only [bkR, decide_eq_true_eq] at hr
      have e0 : 0 ≤ a → a ≤ 4096 → IntKind.i64.wrap (4096 - a) = 4096 - a := fun _ _ => wrap64s (by omega) (by omega)
      simp
      by_cases c1 : a < 0
      · rw [if_pos (.inl c1)] at hR
        rw [hR]
        simp [c1]
        exact fin_W (by simp [flP])
      by_cases c3 : 4096 < a
      · rw [if_pos (.inr (.inl c3))] at hR
        rw [hR]
        simp [c1, c3]
        exact fin_W (by simp [flP])
      by_cases c4 : 4096 - a < B.length
      · rw [if_pos (.inr (.inr c4))] at hR
        rw [hR]
        simp [c1, c3, c4, e0 (by omega) (by omega)]
        exact fin_W (by simp [flP])
      rw [if_neg (by omega)] at hR
      simp [c1, c3, c4, e0 (by omega) (by omega)]
      have hpd := padN_lt B.length
      refine W_loop (X := { j : Nat // j ≤ padN B.length }) (fun j => [(1, .int .i64 a), (3, .ptr 3 0), (7, .slice 1 4 0 (B.length + j.1) none)]) (fun j => flP f ++ [some ⟨[.ptr 0 0, .int .i64 first], 63, true⟩, some ⟨(B ++ List.replicate j.1 (255 : UInt8)).map bv, 5, false⟩]) (fun j => padN B.length - j.1) ⟨0, by omega⟩ retPost_le ?_ ?_
      · refine cut_w ?_
        simp [flP]
      · rintro ⟨j, hj⟩
        have e5 : ((B.length : Int) + j).tmod 4 = (((B.length + j) % 4 : Nat) : Int) := by rw [show (B.length : Int) + j = ((B.length + j : Nat) : Int) by omega]; rfl
        obtain ⟨q, hq⟩ : ∃ q, q = (B.length + j) % 4 := ⟨_, rfl⟩
        rw [← hq] at e5
        simp [flP, e5]
        refine WC_ndec (fun hn => ?_) (fun hn => ?_)
        · have hjlt : j < padN B.length := by
            rcases Nat.lt_or_ge j (padN B.length) with z | z
            · exact z
            · exfalso; have : j = padN B.length := by omega
              subst this; omega
          have htk : List.take (B.length + j) (List.map bv B ++ List.replicate j (AV.int .u8 255)) = List.map bv B ++ List.replicate j (AV.int .u8 255) := List.take_of_length_le (by simp)
          have hap : List.map bv B ++ (List.replicate j (AV.int .u8 255) ++ [AV.int .u8 255]) = List.map bv B ++ List.replicate (j + 1) (AV.int .u8 255) := by rw [List.replicate_succ']
          simp [htk, bv]
          repeat (refine ⟨by omega, ?_⟩)
          refine ⟨⟨j + 1, by omega⟩, by simp; omega, ?_⟩
          refine cut_rw [0, 1, 2, 3, 5] (by simp) rfl (by simp [htk, hap]; omega) ?_
          simp [flP, bv, htk, hap]
        · have hje : j = padN B.length := by
            rcases Nat.lt_or_ge j (padN B.length) with z | z
            · exfalso; unfold padN at z hj; omega
            · omega
          subst hje
          have e1 : IntKind.i64.wrap (first * 256) = first * 256 := wrap64s (by omega) (by omega)
          have e2 : IntKind.i64.wrap (first * 256 + a) = first * 256 + a := wrap64s (by omega) (by omega)
          have hpr := fFlProg_spec f hf (first * 256 + a) (by omega) (padB B) ⟨false, false, false⟩ (by rw [padB_len]; omega)
          rw [← hR] at hpr
          have hpd2 : (padB B).map bv = List.map bv B ++ List.replicate (padN B.length) (bv 255) := by simp [padB]
          rw [hpd2] at hpr
          have htk : List.take (B.length + padN B.length) (List.map bv B ++ List.replicate (padN B.length) (AV.int .u8 255)) = List.map bv B ++ List.replicate (padN B.length) (AV.int .u8 255) := List.take_of_length_le (by simp)
          simp only [bv] at hpr
          simp
          refine W_cut (cut_frz 4 rfl) ?_
          simp [e1, e2, htk]
          refine WO_callF [0, 1, 2] rfl (by simp [bv]) hpr (by simp [flP]) (by simp [flP]) (by simp) ?_
          simp [flP]
          exact fin_W (by simp [flP])
end Go.Proofs.Ytjehncilahjmdaa
