/-
  Items, parsed and encoded.
-/
import Derived.Test.YthgibibeoapfbaaeKP
set_option linter.unusedSimpArgs false
set_option linter.unusedVariables false
set_option linter.unusedSectionVars false
namespace Go.Proofs.Ythgibibeoapfbaa
open Go Go.Fw
attribute [local simp] bv cleanL_bv toBytes_bv ltL_bv atF_drop WS_at_bytes W_nil W_skip W_seq W_reg W_draw W_drawP W_kill W_keep W_block W_blk W_exit W_ret WX_blk WX_c WX_lp WX_li W_li W_condT W_condF W_cond WC_true WC_false
  WR_nil WR_cons WR_o1 WR_o2 o1_chk o2_chk WR_grd WG_tt WG_ff WG_tf WG_ft WG_none WS_some WS_ok1 WSr_no WSr_some WSr_ok1 WSr_at_bytes WH_some WHA_some chkF_cons chkF_nil chkE_some chkE_ok1 chkE_at evF WO_mv WO_pick WO_bin WO_isNil WO_eqA WO_un WO_convI WO_toStr WO_ofStr WO_build WO_buildF WO_load WO_nilCheck WO_fieldAddr WO_field WO_idxA WO_idxS
  WO_ixA WO_slS WO_slA WO_len WO_lenK WO_appF WO_extract WO_s2a WO_iface WO_min WO_max WO_alloc WO_box WO_buildO WO_store WO_appO WO_copy WO_makeS WO_allocA WO_makeA WO_cvt cvtF_slice WO_look lookF_map alAF mkAF WO_func bind1_v bind2_v bindH_v bindH2_v bindS_v okO_v pickO_t pickO_f
  Env.keep Env.get Env.set Env.del Env.dels Env.setO Env.opd Env.opds Env.opdO Env.parts intF aggF fillA splice cleanL AV.clean bndF fldF_one fldF_many toStrF boxF buildOF
  loadF_rptr loadF_rptrN atF_zero atF_succ blk_cons_zero blk_cons_succ loadF_p loadF_pN atB_some atBN_some retPost resL one
  okc_bool cells_bool notStr_bool okc_int cells_int notStr_int okc_str cells_str notStr_str okc_nil cells_nil notStr_nil okc_ptr cells_ptr notStr_ptr okc_rptr cells_rptr notStr_rptr okc_slice cells_slice notStr_slice 
  okc_list cells_list notStr_list okc_func cells_func notStr_func okc_nilFunc cells_nilFunc notStr_nilFunc okc_iface cells_iface notStr_iface okc_nilIface cells_nilIface notStr_nilIface okc_agg cells_agg notStr_agg 
  okc_tuple cells_tuple notStr_tuple lenF_slice lenF_list lenF_str faF_ptr faF_rptr idxSF_slice idxSF_list idxAF_ptr idxAF_rptr ixAF_many ixAF_one convF_int unF_neg unF_xor unF_not nilF_0nil nilF_0ptr nilF_0rptr nilF_1 
  nilF_2nil nilF_2f nilF_3nil nilF_3f binF_int binF_beq binF_bne binF_sadd binF_seq binF_sne sliceCells_list sliceCells_str sliceCells_slice cutC_some szAV_list szAV_str szAV_slice oneSl_list oneSl_slice slSF_sliceS 
  slSF_sliceN slSF_list slAF_rptr slAF_ptr appFF_list appOF_list appOF_sliceN appOF_sliceS storeF_ptr copyF_slice extF_tuple s2aF_slice s2aF_list nchkF_ptr nchkF_rptr nchkF_f mmF_int ofStrF_str mkSF_int eqAF_agg
attribute [local irreducible] W WX WR WO WS WSr WH WHA WG WC FSpec
attribute [local simp] lendAll
attribute [local congr] W_cg WR_cg WO_cg WS_cg WSr_cg WH_cg WHA_cg WG_cg WC_cg WX_cg
attribute [local simp] Env.has AV.wkr wkrL AV.wkr_refl wkrL_refl AV.ltI ltL leHW hasW Env.lt AV.ids idsL AV.sub subL AV.ren AV.frz frzS frzP frzE frzL Heap.frz Blk.frz Blk.ren renL rnS rnP hasR leR idsL_bv subL_bv
attribute [local simp] cleanL_take cleanL_drop ltL_take ltL_drop idsL_take idsL_drop subL_take subL_drop cleanL_append ltL_append idsL_append subL_append
attribute [local simp] renE mvN mvH
attribute [local simp] fwd backH putL bwd
attribute [local simp] u8i u8e List.idxOf_cons
attribute [local simp] hasRW leRW
structure It2 where
  tag : UInt8
  val : List UInt8
  deriving DecidableEq
def It2.cells (i : It2) : List AV := [bv i.tag, .list 1 ⟨false, false, false⟩ (i.val.map bv)]
def cells2 (l : List It2) : List AV := l.flatMap It2.cells
@[simp] theorem cells2_length (l : List It2) : (cells2 l).length = l.length * 2 := by
  induction l with
  | nil => rfl
  | cons i l ih => simp [cells2, It2.cells] at ih ⊢; omega
@[simp] theorem cells2_drop (l : List It2) (i : Nat) : (cells2 l).drop (i * 2) = cells2 (l.drop i) := by
  induction l generalizing i with
  | nil => simp [cells2]
  | cons x l ih =>
    cases i with
    | zero => simp
    | succ i =>
      have := ih i
      simp only [cells2, List.flatMap_cons, It2.cells, List.drop_succ_cons] at this ⊢
      rw [← this, show (i + 1) * 2 = i * 2 + 1 + 1 by omega]
      simp
@[simp] theorem cells2_cons (x : It2) (l : List It2) : cells2 (x :: l) = bv x.tag :: .list 1 ⟨false, false, false⟩ (x.val.map bv) :: cells2 l := by simp [cells2, It2.cells]
@[simp] theorem ltL_cells2 (n : Nat) (l : List It2) : ltL n (cells2 l) = true := ltL_flatMap _ fun x => by simp [It2.cells, ltL, AV.ltI]
@[simp] theorem ids_cells2 (q : Nat → Bool) (l : List It2) : idsL q (cells2 l) = true := idsL_flatMap _ fun x => by simp [It2.cells, idsL, AV.ids, idsL_bv]
@[simp] theorem sub_cells2 (s : Nat → Nat → Nat → Nat → Option Nat → AV) (p : Nat → Nat → AV) (l : List It2) : subL s p (cells2 l) = cells2 l := subL_flatMap _ fun x => by simp [It2.cells, subL, AV.sub, subL_bv]
@[simp] theorem cleanL_cells2 (l : List It2) : cleanL (cells2 l) = true := cleanL_flatMap _ fun x => by simp [It2.cells]
theorem cells2_append (a b : List It2) : cells2 (a ++ b) = cells2 a ++ cells2 b := by simp [cells2]
@[simp] theorem cells2_nil : cells2 [] = [] := rfl
/-- The items; the error's number. -/
def tlvP (b : List UInt8) (last : UInt8) (out : List It2) : List It2 × Int :=
  match b with
  | [] => (out, 0)
  | [_] => ([], 18)
  | t :: n :: r => if t ≤ last then ([], 7) else if 200 < n.toNat ∨ out.length = 16 then ([], 17) else if r.length < n.toNat then ([], 18) else
      tlvP (r.drop n.toNat) t (out ++ [⟨t, r.take n.toNat⟩])
  termination_by b.length
  decreasing_by simp; omega
def tlvR (r : List It2 × Int) : AV := .tuple [.list 2 ⟨false, false, false⟩ (cells2 r.1), .int .i64 r.2]
theorem fTParse_spec (b : List UInt8) (md : Md) (hb : b.length < 2^62) : FSpec Try.prog 52 [.list 1 md (b.map bv)] [] (tlvR (tlvP b 0 [])) [] := by
  refine FSpec.of_W fTParse_low (by simp) ?_
  simp only [initEnv]
  simp
  refine W_loop (X := { s : List UInt8 × Md × UInt8 × List It2 // s.1.length < 2^62 ∧ s.2.2.2.length ≤ 16 ∧ tlvP s.1 s.2.2.1 s.2.2.2 = tlvP b 0 [] })
    (fun s => [(0, .list 1 s.1.2.1 (s.1.1.map bv)), (4, .slice 2 0 0 s.1.2.2.2.length none), (5, .int .i64 s.1.2.2.1.toNat)]) (fun s => [some ⟨cells2 s.1.2.2.2, 95, false⟩]) (fun s => s.1.1.length) ⟨(b, md, 0, []), hb, by simp, rfl⟩ retPost_le ?_ ?_
  · refine cut_trans (cut_ghost 4 2 95 (by simp) rfl rfl) (cut_w ?_)
    simp [cells2]
  · rintro ⟨⟨c, md, last, out⟩, hc, ho, he⟩
    simp only at hc ho he ⊢
    rcases c with _ | ⟨t, _ | ⟨n, r⟩⟩
    · simp
      rw [tlvP] at he
      rw [← he]
      refine fin_F 0 rfl (fin_W ?_)
      simp [tlvR]
      rw [List.take_of_length_le (by simp)]; simp
    · simp
      rw [tlvP] at he
      rw [← he]
      refine fin_W ?_
      simp [tlvR, cells2]
    · rw [tlvP] at he
      simp at hc
      have er : ∀ {n : Int}, ([], n) = tlvP b 0 [] → fin 0 (tlvR (tlvP b 0 [])) [] (.tuple [.list 1 ⟨true, true, false⟩ [], .int .i64 n]) [some ⟨cells2 out, 95, false⟩] := fun q => by
        rw [← q]; refine fin_W ?_; simp [tlvR, cells2]
      simp [wrap64_u8]
      refine WC_dec (fun h => ?_) (fun h => ?_)
      rotate_left
      · exfalso; omega
      simp [wrap64_u8]
      refine WC_dec (fun h => ?_) (fun h => ?_)
      · exfalso; omega
      simp [wrap64_u8]
      refine WC_dec (fun h => ?_) (fun h => ?_)
      · simp
        rw [if_pos (UInt8.le_iff_toNat_le.2 (by omega))] at he
        exact er he
      · have h' : ¬ t ≤ last := fun q => h (by have := UInt8.le_iff_toNat_le.1 q; omega)
        rw [if_neg h'] at he
        simp
        refine WG_decF (fun hn => ?_) (fun hn => ?_)
        · rw [if_pos (.inl (by omega))] at he
          simp
          exact er he
        · simp
          refine WC_dec (fun h6 => ?_) (fun h6 => ?_)
          · rw [if_pos (.inr (by omega))] at he
            simp
            exact er he
          · rw [if_neg (by omega)] at he
            simp
            rw [wrap64 (by omega) (by omega)]
            refine WC_dec (fun hr => ?_) (fun hr => ?_)
            · rw [if_pos (by omega)] at he
              simp
              exact er he
            · rw [if_neg (by omega)] at he
              simp
              rw [wrap64 (by omega) (by omega)]
              have hm : (2 + (n.toNat : Int)).toNat = 2 + n.toNat := by omega
              have e1 : List.take (out.length * 2) (cells2 out) = cells2 out := List.take_of_length_le (by simp)
              have e2 : List.drop (2 + n.toNat) (AV.int IntKind.u8 ↑t.toNat :: AV.int IntKind.u8 ↑n.toNat :: List.map bv r) = List.drop n.toNat (r.map bv) := by
                rw [show 2 + n.toNat = n.toNat + 1 + 1 by omega, List.drop_succ_cons, List.drop_succ_cons]
              simp [hm, show 2 + n.toNat - 2 = n.toNat by omega, e1]
              refine ⟨by omega, by omega, by omega, by omega, ⟨(r.drop n.toNat, ⟨md.nl, md.full, md.bw⟩, t, out ++ [⟨t, r.take n.toNat⟩]), by simp; omega, by simp; omega, he⟩, by simp; omega, ?_⟩
              refine cut_ren [1] (by simp) rfl ?_ ?_
              · simp [e2, bwd, rnS]
                rw [List.take_of_length_le (by simp; omega)]
              · simp [cells2_append, It2.cells, bwd]
def lastT (out : List It2) : UInt8 := match out.getLast? with
  | some x => x.tag
  | none => 0
theorem cells2_get (l : List It2) (i : Nat) (x : It2) (h : l[i]? = some x) : (cells2 l)[i * 2]? = some (.int .u8 x.tag.toNat) := by
  have := cells2_drop l i
  have h2 : l.drop i = x :: l.drop (i + 1) := by
    have hi := (List.getElem?_eq_some_iff.1 h)
    rw [← hi.2]; simp
  rw [← Nat.add_zero (i * 2), ← List.getElem?_drop, this, h2, cells2_cons]
  rfl
theorem fTRParse_spec (b : List UInt8) (md : Md) (hb : b.length < 2^62) : FSpec Try.prog 56 [.list 1 md (b.map bv)] [] (tlvR (tlvP b 0 [])) [] := by
  refine FSpec.of_W fTRParse_low (by simp) ?_
  simp only [initEnv]
  simp
  refine W_loop (X := { s : Nat × List It2 // s.1 ≤ b.length ∧ s.2.length ≤ 16 ∧ tlvP (b.drop s.1) (lastT s.2) s.2 = tlvP b 0 [] })
    (fun s => [(0, .list 1 md (b.map bv)), (4, .slice 2 0 0 s.1.2.length none), (5, .int .i64 s.1.1)]) (fun s => [some ⟨cells2 s.1.2, 153, false⟩]) (fun s => b.length - s.1.1) ⟨(0, []), by simp, by simp, rfl⟩ retPost_le ?_ ?_
  · refine cut_trans (cut_ghost 4 2 153 (by simp) rfl rfl) (cut_w ?_)
    simp
  · rintro ⟨⟨p, out⟩, hp, ho, he⟩
    simp only at hp ho he ⊢
    have er : ∀ {n : Int}, ([], n) = tlvP b 0 [] → fin 0 (tlvR (tlvP b 0 [])) [] (.tuple [.list 1 ⟨true, true, false⟩ [], .int .i64 n]) [some ⟨cells2 out, 153, false⟩] := fun q => by
      rw [← q]; refine fin_W ?_; simp [tlvR]
    simp
    refine WC_dec (fun h => ?_) (fun h => ?_)
    rotate_left
    · simp
      rw [List.drop_of_length_le (by omega), tlvP] at he
      rw [← he]
      refine fin_F 0 rfl (fin_W ?_)
      simp [tlvR]
      rw [List.take_of_length_le (by simp)]; simp
    obtain ⟨t, c, hc⟩ : ∃ t c, b.drop p = t :: c := ⟨b[p], b.drop (p+1), by simp⟩
    have ht : b[p]? = some t := by rw [← Nat.add_zero p, ← List.getElem?_drop, hc]; rfl
    have hl : b.length = p + (c.length + 1) := by have := congrArg List.length hc; simp at this; omega
    rw [hc] at he
    simp
    rw [wrap64 (by omega) (by omega)]
    refine WC_dec (fun h1 => ?_) (fun h1 => ?_)
    · simp
      have : c = [] := List.length_eq_zero_iff.1 (by omega)
      subst this
      rw [tlvP] at he
      exact er he
    rcases c with _ | ⟨n, r⟩
    · exfalso; simp at hl; omega
    have hn : b[p+1]? = some n := by rw [← List.getElem?_drop, hc]; rfl
    simp at hl
    rw [tlvP] at he
    simp
    rw [wrap64 (by omega) (by omega)]
    have hp1 : ((p : Int) + 1).toNat = p + 1 := by omega
    simp [hp1, hn, ht, wrap64_u8]
    refine ⟨by omega, by omega, by omega, ?_⟩
    have e1 : List.take (out.length * 2) (cells2 out) = cells2 out := List.take_of_length_le (by simp)
    refine WG_join [(0, .list 1 md (b.map bv)), (4, .slice 2 0 0 out.length none), (5, .int .i64 p), (6, .int .i64 n.toNat), (45, .bool (decide (t ≤ lastT out)))] [some ⟨cells2 out, 153, false⟩] ?_ (fun k Q hW => ?_)
    rotate_left
    · refine WG_decF (fun hz => ?_) (fun hz => ?_)
      · simp [show t ≤ lastT out from UInt8.le_iff_toNat_le.2 (by omega)] at hW
        simpa using hW
      · simp
        refine WG_decT (fun hq => ?_) (fun hq => ?_)
        · have hq : out ≠ [] := fun q => by rw [q] at hq; simp at hq
          obtain ⟨l, x, rfl⟩ : ∃ l x, out = l ++ [x] := ⟨out.dropLast, out.getLast hq, (List.dropLast_concat_getLast hq).symm⟩
          simp at ho
          have e3 : lastT (l ++ [x]) = x.tag := by simp [lastT]
          have e4 : (cells2 (l ++ [x]))[l.length * 2]? = some (.int .u8 x.tag.toNat) := cells2_get _ _ _ (by simp)
          have e5 : atF (cells2 (l ++ [x])) (l.length * 2) = ok1 (.int .u8 x.tag.toNat) := by unfold atF; rw [e4]
          simp [ht]
          rw [wrap64 (by omega) (by omega)]
          simp [e3, UInt8.le_iff_toNat_le, e5] at hW ⊢
          exact ⟨h, by omega, hW⟩
        · have hq : out = [] := List.length_eq_zero_iff.1 (by omega)
          subst hq
          simp [show ¬ t ≤ lastT [] from fun q => hz (by have := UInt8.le_iff_toNat_le.1 q; simp [lastT] at this; exact this)] at hW
          simpa using hW
    simp
    refine WC_dec (fun h7 => ?_) (fun h7 => ?_)
    · rw [if_pos h7] at he
      simp
      exact er he
    rw [if_neg h7] at he
    simp
    refine WG_decF (fun h8 => ?_) (fun h8 => ?_)
    · rw [if_pos (.inl (by omega))] at he
      simp
      exact er he
    simp
    refine WC_dec (fun h9 => ?_) (fun h9 => ?_)
    · rw [if_pos (.inr (by omega))] at he
      simp
      exact er he
    rw [if_neg (by omega)] at he
    simp
    rw [wrap64 (n := (p : Int) + 2) (by omega) (by omega), wrap64 (n := (p : Int) + 2 + n.toNat) (by omega) (by omega)]
    refine WC_dec (fun h10 => ?_) (fun h10 => ?_)
    · rw [if_pos (by omega)] at he
      simp
      exact er he
    rw [if_neg (by omega)] at he
    simp [ht]
    rw [wrap64 (n := (p : Int) + 2) (by omega) (by omega), wrap64 (n := (p : Int) + 2 + n.toNat) (by omega) (by omega), wrap64 (n := 2 + (n.toNat : Int)) (by omega) (by omega), wrap64 (n := (p : Int) + (2 + n.toNat)) (by omega) (by omega)]
    have hm1 : ((p : Int) + 2 + (n.toNat : Int)).toNat = p + 2 + n.toNat := by omega
    have hm2 : ((p : Int) + 2).toNat = p + 2 := by omega
    have hd : b.drop (p + 2) = r := by
      have := congrArg (List.drop 2) hc
      rw [List.drop_drop] at this
      simpa using this
    have hd' : List.drop (p + 2) (b.map bv) = r.map bv := by rw [← hd]; simp
    simp [hm1, hm2, hd', e1, show p + 2 + n.toNat - (p + 2) = n.toNat by omega]
    have hl2 : lastT (out ++ [⟨t, r.take n.toNat⟩]) = t := by simp [lastT]
    have hd2 : b.drop (p + 2 + n.toNat) = r.drop n.toNat := by rw [← List.drop_drop, hd]
    refine ⟨h, by omega, by omega, by omega, ⟨(p + 2 + n.toNat, out ++ [⟨t, r.take n.toNat⟩]), by simp; omega, by simp; omega, by simp only [hl2, hd2]; exact he⟩, by simp; omega, ?_⟩
    refine cut_ren [1] (by simp) rfl ?_ ?_
    · simp [bwd, rnS]
      omega
    · simp [cells2_append, It2.cells, bwd]
/-- The bytes, or the error's number. -/
def tlvE : List It2 → UInt8 → Nat → List UInt8 → List UInt8 × Int
  | [], _, _, out => (out, 0)
  | x :: l, last, i, out => if x.tag ≤ last then ([], 7) else if 200 < x.val.length ∨ i = 16 then ([], 17) else tlvE l x.tag (i + 1) (out ++ [x.tag, UInt8.ofNat x.val.length] ++ x.val)
def encR (r : List UInt8 × Int) : AV := .tuple [.list 1 ⟨false, false, false⟩ (r.1.map bv), .int .i64 r.2]
theorem wrap8_len {n : Nat} (h : n ≤ 200) : IntKind.u8.wrap (n : Int) = ((UInt8.ofNat n).toNat : Int) := by
  rw [wrap8 (by omega) (by omega), UInt8.toNat_ofNat_of_lt' (by show n < 256; omega)]
theorem fTEncode_spec (l : List It2) (md : Md) (hl : l.length < 2 ^ 62) : FSpec Try.prog 50 [.list 2 md (cells2 l)] [] (encR (tlvE l 0 0 [])) [] := by
  refine FSpec.of_W fTEncode_low (by simp) ?_
  simp only [initEnv]
  simp
  refine W_loop (X := { s : Nat × UInt8 × List UInt8 // s.1 ≤ l.length ∧ s.1 ≤ 16 ∧ s.2.2.length ≤ s.1 * 202 ∧ tlvE (l.drop s.1) s.2.1 s.1 s.2.2 = tlvE l 0 0 [] })
    (fun s => [(4, .slice 1 0 0 s.1.2.2.length none), (5, .int .u8 s.1.2.1.toNat), (8, .list 2 md (cells2 l)), (9, .int .i64 l.length), (10, .int .i64 s.1.1)]) (fun s => [some ⟨s.1.2.2.map bv, 5, false⟩]) (fun s => l.length - s.1.1) ⟨(0, 0, []), by simp, by simp, by simp, rfl⟩ retPost_le ?_ ?_
  · refine cut_trans (cut_ghost 4 1 5 (by simp) rfl rfl) (cut_w ?_)
    simp
  · rintro ⟨⟨i, last, out⟩, hi, h16, ho, he⟩
    simp only at hi h16 ho he ⊢
    simp
    refine WC_dec (fun hlt => ?_) (fun hlt => ?_)
    · obtain ⟨x, r, hd⟩ : ∃ x r, l.drop i = x :: r := ⟨l[i], l.drop (i+1), by simp⟩
      rw [hd, tlvE] at he
      have er : ∀ {n : Int} {Hx : Heap}, ([], n) = tlvE l 0 0 [] → fin 0 (encR (tlvE l 0 0 [])) [] (.tuple [.list 1 ⟨true, true, false⟩ [], .int .i64 n]) Hx := fun q => by
        rw [← q]; refine fin_W ?_; simp [encR]
      simp [hd]
      refine ⟨hlt, ?_⟩
      refine WC_dec (fun h7 => ?_) (fun h7 => ?_)
      · rw [if_pos (UInt8.le_iff_toNat_le.2 (by omega))] at he
        simp
        exact er he
      rw [if_neg (fun q => h7 (by have := UInt8.le_iff_toNat_le.1 q; omega))] at he
      simp
      refine WG_decF (fun h8 => ?_) (fun h8 => ?_)
      · rw [if_pos (.inl (by omega))] at he
        simp
        exact er he
      simp
      refine WC_dec (fun h9 => ?_) (fun h9 => ?_)
      · rw [if_pos (.inr (by omega))] at he
        simp
        exact er he
      rw [if_neg (by omega)] at he
      have e1 : List.take out.length (out.map bv) = out.map bv := List.take_of_length_le (by simp)
      have e2 : List.take (out.length + 2) (out.map bv ++ [bv x.tag, bv (UInt8.ofNat x.val.length)]) = out.map bv ++ [bv x.tag, bv (UInt8.ofNat x.val.length)] := List.take_of_length_le (by simp)
      simp [wrap8_len (show x.val.length ≤ 200 by omega), e1]
      rw [wrap64 (by omega) (by omega)]
      have hl2 : (out ++ [x.tag, UInt8.ofNat x.val.length] ++ x.val).length = out.length + 2 + x.val.length := by simp; omega
      have hd2 : l.drop (i + 1) = r := by rw [← List.drop_drop, hd]; rfl
      refine ⟨by omega, by omega, ⟨(i + 1, x.tag, out ++ [x.tag, UInt8.ofNat x.val.length] ++ x.val), by simp; omega, by simp; omega, by simp only [hl2]; omega, by simp only [hd2]; exact he⟩, by simp; omega, ?_⟩
      refine cut_ren [3] (by simp) rfl ?_ ?_
      · simp [bwd, rnS]
        omega
      · simp [bwd] at e2 ⊢
        rw [e2]
        simp
    · rw [List.drop_of_length_le (by omega), tlvE] at he
      simp
      rw [← he]
      refine fin_F 0 rfl (fin_W ?_)
      simp [encR]
      rw [List.take_of_length_le (by simp)]
      simp
end Go.Proofs.Ythgibibeoapfbaa
