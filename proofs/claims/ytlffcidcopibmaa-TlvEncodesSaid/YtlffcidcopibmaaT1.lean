/-
  chapter 11
-/
import Derived.Test.YtlffcidcopibmaaK1
set_option linter.unusedSimpArgs false
set_option linter.unusedVariables false
set_option linter.unusedSectionVars false
namespace Go.Proofs.Ytlffcidcopibmaa
open Go Go.Fw
attribute [local simp] bv cleanL_bv toBytes_bv ltL_bv atF_drop WS_at_bytes W_nil W_skip W_seq W_reg W_draw W_kill W_keep W_block W_blk W_exit W_ret WX_blk WX_c WX_lp WX_li W_li W_condT W_condF W_cond WC_true WC_false
  WR_nil WR_cons WR_o1 WR_o2 o1_chk o2_chk WR_grd WG_tt WG_ff WG_tf WG_ft WG_none WS_some WS_ok1 WSr_no WSr_some WSr_ok1 WSr_at_bytes WH_some chkF_cons chkF_nil chkE_some chkE_ok1 chkE_at evF WO_mv WO_pick WO_bin WO_isNil WO_eqA WO_un WO_convI WO_toStr WO_ofStr WO_build WO_buildF WO_load WO_nilCheck WO_fieldAddr WO_field WO_idxA WO_idxS
  WO_ixA WO_slS WO_slA WO_len WO_lenK WO_appF WO_extract WO_s2a WO_iface WO_min WO_max WO_alloc WO_box WO_buildO WO_store WO_appO WO_copy WO_makeS WO_func bind1_v bind2_v bindH_v bindH2_v bindS_v okO_v pickO_t pickO_f
  Env.keep Env.get Env.set Env.del Env.dels Env.setO Env.opd Env.opds Env.opdO Env.parts intF aggF fillA splice cleanL AV.clean bndF fldF_one fldF_many toStrF boxF buildOF
  loadF_rptr loadF_rptrN atF_zero atF_succ blk_cons_zero blk_cons_succ loadF_p loadF_pN atB_some atBN_some retPost resL one
  okc_bool cells_bool notStr_bool okc_int cells_int notStr_int okc_str cells_str notStr_str okc_nil cells_nil notStr_nil okc_ptr cells_ptr notStr_ptr okc_rptr cells_rptr notStr_rptr okc_slice cells_slice notStr_slice 
  okc_list cells_list notStr_list okc_func cells_func notStr_func okc_nilFunc cells_nilFunc notStr_nilFunc okc_iface cells_iface notStr_iface okc_nilIface cells_nilIface notStr_nilIface okc_agg cells_agg notStr_agg 
  okc_tuple cells_tuple notStr_tuple lenF_slice lenF_list lenF_str faF_ptr faF_rptr idxSF_slice idxSF_list idxAF_ptr idxAF_rptr ixAF_many ixAF_one convF_int unF_neg unF_xor unF_not nilF_0nil nilF_0ptr nilF_0rptr nilF_1 
  nilF_2nil nilF_2f nilF_3nil nilF_3f binF_int binF_beq binF_bne binF_sadd binF_seq binF_sne sliceCells_list sliceCells_str sliceCells_slice cutC_some szAV_list szAV_str szAV_slice oneSl_list oneSl_slice slSF_sliceS 
  slSF_sliceN slSF_list slAF_rptr slAF_ptr appFF_list appOF_list appOF_sliceN appOF_sliceS storeF_ptr copyF_slice extF_tuple s2aF_slice s2aF_list nchkF_ptr nchkF_rptr nchkF_f mmF_int ofStrF_str mkSF_int eqAF_agg
attribute [local irreducible] W WX WR WO WS WSr WH WG WC FSpec
attribute [local simp] lendAll
attribute [local congr] W_cg WR_cg WO_cg WS_cg WSr_cg WH_cg WG_cg WC_cg WX_cg
attribute [local simp] Env.has AV.wkr wkrL AV.wkr_refl wkrL_refl AV.ltI ltL leHW hasW Env.lt AV.ids idsL AV.sub subL AV.ren AV.frz frzS frzP frzE frzL Heap.frz Blk.frz Blk.ren renL rnS rnP hasR leR idsL_bv subL_bv
attribute [local simp] cleanL_take cleanL_drop ltL_take ltL_drop idsL_take idsL_drop subL_take subL_drop cleanL_append ltL_append idsL_append subL_append
structure It2 where
  tag : UInt8
  val : List UInt8
  deriving DecidableEq
def It2.cells (i : It2) : List AV := [bv i.tag, .list 1 ⟨false, false, false⟩ (i.val.map bv)]
def cells2 (l : List It2) : List AV := l.flatMap It2.cells
@[simp] theorem cells2_length (l : List It2) : (cells2 l).length = l.length * 2 := by
  induction l with
  | nil => rfl
  | cons i l ih => simp [cells2, It2.cells] at ih ⊢; omega
@[simp] theorem cells2_drop (l : List It2) (i : Nat) : (cells2 l).drop (i * 2) = cells2 (l.drop i) := by
  induction l generalizing i with
  | nil => simp [cells2]
  | cons x l ih =>
    cases i with
    | zero => simp
    | succ i =>
      have := ih i
      simp only [cells2, List.flatMap_cons, It2.cells, List.drop_succ_cons] at this ⊢
      rw [← this, show (i + 1) * 2 = i * 2 + 1 + 1 by omega]
      simp
@[simp] theorem cells2_cons (x : It2) (l : List It2) : cells2 (x :: l) = bv x.tag :: .list 1 ⟨false, false, false⟩ (x.val.map bv) :: cells2 l := by simp [cells2, It2.cells]
@[simp] theorem ltL_cells2 (n : Nat) (l : List It2) : ltL n (cells2 l) = true := ltL_flatMap _ fun x => by simp [It2.cells, ltL, AV.ltI]
@[simp] theorem ids_cells2 (q : Nat → Bool) (l : List It2) : idsL q (cells2 l) = true := idsL_flatMap _ fun x => by simp [It2.cells, idsL, AV.ids, idsL_bv]
@[simp] theorem sub_cells2 (s : Nat → Nat → Nat → Nat → Option Nat → AV) (p : Nat → Nat → AV) (l : List It2) : subL s p (cells2 l) = cells2 l := subL_flatMap _ fun x => by simp [It2.cells, subL, AV.sub, subL_bv]
@[simp] theorem cleanL_cells2 (l : List It2) : cleanL (cells2 l) = true := cleanL_flatMap _ fun x => by simp [It2.cells]
theorem cells2_append (a b : List It2) : cells2 (a ++ b) = cells2 a ++ cells2 b := by simp [cells2]
@[simp] theorem cells2_nil : cells2 [] = [] := rfl
/-- The value of a tag; is there one? -/
def tlvF (l : List It2) (tag : UInt8) : List UInt8 × Bool := match l.find? (fun i => i.tag = tag) with
  | some i => (i.val, true)
  | none => ([], false)
theorem fFind_spec (l : List It2) (md : Md) (tag : UInt8) (hl : l.length < 2^62) (hv : ∀ i ∈ l, i.val.length < 2^47) : FSpec Try.prog 16 [.list 2 md (cells2 l), bv tag] [] (.tuple [.list 1 ⟨false, false, false⟩ ((tlvF l tag).1.map bv), .bool (tlvF l tag).2]) [] := by
  refine FSpec.of_W fFind_low (by simp) ?_
  simp only [initEnv]
  simp
  refine W_loop (X := { i : Nat // i ≤ l.length ∧ tlvF l tag = tlvF (l.drop i) tag }) (fun x => [(1, bv tag), (8, AV.list 2 md (cells2 l)), (9, AV.int IntKind.i64 l.length),
      (10, AV.int IntKind.i64 x.1)]) (fun _ => []) (fun x => l.length - x.1) ⟨0, by simp⟩ retPost_le ?_ ?_
  · refine cut_w ?_
    simp
  · rintro ⟨i, hi, hn⟩
    simp
    refine WC_dec (fun h => ?_) (fun h => ?_)
    · obtain ⟨x, r, hd⟩ : ∃ x r, l.drop i = x :: r := ⟨l[i], l.drop (i+1), by simp⟩
      have hm : x ∈ l := List.mem_of_mem_drop (by rw [hd]; simp : x ∈ l.drop i)
      have hb := hv x hm
      rw [hd] at hn
      simp [hd]
      refine ⟨h, ?_⟩
      refine WC_dec (fun he => ?_) (fun he => ?_)
      · have he' : x.tag = tag := UInt8.toNat_inj.1 (Int.natCast_inj.1 he)
        simp
        refine ⟨by omega, ?_⟩
        refine fin_W ?_
        rw [hn, show tlvF (x :: r) tag = (x.val, true) by simp [tlvF, he']]
        simp
      · have he' : ¬ x.tag = tag := fun q => he (by rw [q])
        simp
        refine ⟨⟨i + 1, h, ?_⟩, ?_, ?_⟩
        · rw [← List.drop_drop, hd, hn]; simp [tlvF, he']
        · simp; omega
        · refine cut_w ?_
          simp
          rw [wrap64 (by omega) (by omega)]
    · rw [List.drop_of_length_le (by omega)] at hn
      simp
      refine fin_W ?_
      rw [hn, show tlvF [] tag = ([], false) from rfl]
      simp
end Go.Proofs.Ytlffcidcopibmaa
