/-
  chapter 16: the law of answers
-/
import Derived.Test.YtlffcidcopibmaaT40
set_option linter.unusedSimpArgs false
set_option linter.unusedVariables false
set_option linter.unusedSectionVars false
namespace Go.Proofs.Ytlffcidcopibmaa
open Go Go.Fw
attribute [local simp] bv cleanL_bv toBytes_bv ltL_bv atF_drop WS_at_bytes W_nil W_skip W_seq W_reg W_draw W_drawP W_kill W_keep W_block W_blk W_exit W_ret WX_blk WX_c WX_lp WX_li W_li W_condT W_condF W_cond WC_true WC_false
  WR_nil WR_cons WR_o1 WR_o2 o1_chk o2_chk WR_grd WG_tt WG_ff WG_tf WG_ft WG_none WS_some WS_ok1 WSr_no WSr_some WSr_ok1 WSr_at_bytes WH_some WHA_some chkF_cons chkF_nil chkE_some chkE_ok1 chkE_at evF WO_mv WO_pick WO_bin WO_isNil WO_eqA WO_un WO_convI WO_toStr WO_ofStr WO_build WO_buildF WO_load WO_nilCheck WO_fieldAddr WO_field WO_idxA WO_idxS
  WO_ixA WO_slS WO_slA WO_len WO_lenK WO_appF WO_extract WO_s2a WO_iface WO_min WO_max WO_alloc WO_box WO_buildO WO_store WO_appO WO_copy WO_makeS WO_allocA WO_makeA WO_cvt cvtF_slice WO_look lookF_map alAF mkAF WO_func bind1_v bind2_v bindH_v bindH2_v bindS_v okO_v pickO_t pickO_f
  Env.keep Env.get Env.set Env.del Env.dels Env.setO Env.opd Env.opds Env.opdO Env.parts intF aggF fillA splice cleanL AV.clean bndF fldF_one fldF_many toStrF boxF buildOF
  loadF_rptr loadF_rptrN atF_zero atF_succ blk_cons_zero blk_cons_succ loadF_p loadF_pN atB_some atBN_some retPost resL one
  okc_bool cells_bool notStr_bool okc_int cells_int notStr_int okc_str cells_str notStr_str okc_nil cells_nil notStr_nil okc_ptr cells_ptr notStr_ptr okc_rptr cells_rptr notStr_rptr okc_slice cells_slice notStr_slice 
  okc_list cells_list notStr_list okc_func cells_func notStr_func okc_nilFunc cells_nilFunc notStr_nilFunc okc_iface cells_iface notStr_iface okc_nilIface cells_nilIface notStr_nilIface okc_agg cells_agg notStr_agg 
  okc_tuple cells_tuple notStr_tuple lenF_slice lenF_list lenF_str faF_ptr faF_rptr idxSF_slice idxSF_list idxAF_ptr idxAF_rptr ixAF_many ixAF_one convF_int unF_neg unF_xor unF_not nilF_0nil nilF_0ptr nilF_0rptr nilF_1 
  nilF_2nil nilF_2f nilF_3nil nilF_3f binF_int binF_beq binF_bne binF_sadd binF_seq binF_sne sliceCells_list sliceCells_str sliceCells_slice cutC_some szAV_list szAV_str szAV_slice oneSl_list oneSl_slice slSF_sliceS 
  slSF_sliceN slSF_list slAF_rptr slAF_ptr appFF_list appOF_list appOF_sliceN appOF_sliceS storeF_ptr copyF_slice extF_tuple s2aF_slice s2aF_list nchkF_ptr nchkF_rptr nchkF_f mmF_int ofStrF_str mkSF_int eqAF_agg
attribute [local irreducible] W WX WR WO WS WSr WH WHA WG WC FSpec
attribute [local simp] lendAll
attribute [local congr] W_cg WR_cg WO_cg WS_cg WSr_cg WH_cg WHA_cg WG_cg WC_cg WX_cg
attribute [local simp] Env.has AV.wkr wkrL AV.wkr_refl wkrL_refl AV.ltI ltL leHW hasW Env.lt AV.ids idsL AV.sub subL AV.ren AV.frz frzS frzP frzE frzL Heap.frz Blk.frz Blk.ren renL rnS rnP hasR leR idsL_bv subL_bv
attribute [local simp] cleanL_take cleanL_drop ltL_take ltL_drop idsL_take idsL_drop subL_take subL_drop cleanL_append ltL_append idsL_append subL_append
attribute [local simp] renE mvN mvH
attribute [local simp] fwd backH putL bwd
attribute [local simp] u8i u8e List.idxOf_cons
attribute [local simp] hasRW leRW
theorem opA_tail (o c : UInt8) (d : List UInt8) (l : List Nat) (md md2 : Md) (hmd : md.bw = false) (hl : ∀ n ∈ l, n < 2 ^ 32) (h3 : l.length ≤ 50) (hd : d.length ≤ 300) (G : Option Blk) :
    W Try.prog 0 [It.c fOpA_l7.loop, It.blk 1, It.c (KCode.keep [2, 3, 8, 9, 13] ((KCode.draw fOpA_r21).seq KCode.ret))]
      [(2, .list 1 md2 (l.map numV)), (3, .ptr 0 0), (8, .ptr 1 0), (9, .int .i64 0), (13, .list 1 ⟨true, true, false⟩ []), (105, .list 1 md2 (l.map numV)), (106, .int .i64 l.length), (107, .int .i64 0)]
      [some ⟨[.int .u8 o.toNat, .int .u8 c.toNat, .list 1 md (d.map bv)], 44, true⟩, some ⟨[.int .u8 o.toNat, .int .u8 c.toNat, .list 1 ⟨false, false, false⟩ (d.map bv)], 44, true⟩, G]
      (retPost fOpA_rs (fin 0 (.bool true) [])) := by
  have hnl := numB_len
  refine W_loop (X := { i : Nat // i ≤ l.length }) (fun i => [(2, .list 1 md2 (l.map numV)), (3, .ptr 0 0), (8, .ptr 1 0), (9, .int .i64 0), (13, .slice 1 3 0 (4 * i.1) none), (105, .list 1 md2 (l.map numV)), (106, .int .i64 l.length), (107, .int .i64 i.1)])
    (fun i => [some ⟨[.int .u8 o.toNat, .int .u8 c.toNat, .list 1 md (d.map bv)], 44, true⟩, some ⟨[.int .u8 o.toNat, .int .u8 c.toNat, .list 1 ⟨false, false, false⟩ (d.map bv)], 44, true⟩, none, some ⟨(numB (l.take i.1)).map bv, 5, false⟩]) (fun i => l.length - i.1) ⟨0, by simp⟩ retPost_le ?_ ?_
  · refine cut_trans (cut_ghost 13 1 5 (by simp) rfl rfl) (cut_w ?_)
    simp [numB, ltL_num]
  · rintro ⟨i, hi⟩
    simp only
    simp
    refine WC_dec (fun h => ?_) (fun h => ?_)
    · have h' : i < l.length := by omega
      have hc : (l.map numV)[i]? = some (.int .u32 (l[i] : Nat)) := by rw [List.getElem?_map, List.getElem?_eq_getElem h']; rfl
      have hv : numV l[i] = .int .u32 (l[i] : Nat) := rfl
      simp [atF, hc, h', hv]
      refine WO_callP [] rfl rfl (fWord_spec l[i] (hl _ (List.getElem_mem h'))) (by simp) (by simp) ?_
      have hlb : (leB 4 l[i]).length = 4 := by simp [leB]
      simp [hnl, hlb]
      refine ⟨by omega, ⟨i + 1, h'⟩, by simp; omega, ?_⟩
      refine cut_rw [0, 1, 2, 4] (by simp) rfl ?_ ?_
      · simp [ltL_num, wrap64 (n := (i : Int) + 1) (by omega) (by omega), idsL_num, subL_num]
        omega
      · have hm : (numB (l.take i)).length = 4 * i := by rw [hnl, List.length_take, Nat.min_eq_left hi]
        simp [numB_take l i h', List.take_of_length_le, hm]
    · have : i = l.length := by omega
      subst this
      simp [hnl, List.take_of_length_le]
      refine WO_callP (as' := [.list 1 md2 (l.map numV)]) [] rfl rfl (fNumbers_spec l md2 h3) (by simp [idsL_num]) (by simp [hnl, List.take_of_length_le]) ?_
      simp
      exact fin_W (by simp)
theorem fOpA_spec (o c : UInt8) (d b : List UInt8) (l : List Nat) (md md1 md2 : Md) (hmd : md.bw = false) (hl : ∀ n ∈ l, n < 2 ^ 32) (hd0 : d.length < 2 ^ 62) (hb0 : b.length < 2 ^ 62) :
    FSpec Try.prog 5 [.agg [bv o, bv c, .list 1 md (d.map bv)], .list 1 md1 (b.map bv), .list 1 md2 (l.map numV)] [] (.bool true) [] := by
  refine FSpec.of_W fOpA_low (by simp) ?_
  simp only [initEnv]
  simp [hmd]
  refine WO_callP [] rfl rfl fLives16_spec (by simp) (by simp) ?_
  by_cases h1 : 300 < d.length
  · have e1 : (300 : Int) < d.length := by omega
    simp [e1]
    refine WO_callP [] rfl rfl fLives16_spec (by simp) (by simp) ?_
    simp
    exact fin_W (by simp)
  have e1 : ¬ (300 : Int) < d.length := by omega
  by_cases h2 : 300 < b.length
  · have e2 : (300 : Int) < b.length := by omega
    simp [e1, e2]
    refine WO_callP [] rfl rfl fLives16_spec (by simp) (by simp) ?_
    simp
    exact fin_W (by simp)
  have e2 : ¬ (300 : Int) < b.length := by omega
  by_cases h3 : 50 < l.length
  · have e3 : (50 : Int) < l.length := by omega
    simp [e1, e2, e3]
    refine WO_callP [] rfl rfl fLives16_spec (by simp) (by simp) ?_
    simp
    exact fin_W (by simp)
  have e3 : ¬ (50 : Int) < l.length := by omega
  simp [e1, e2, e3]
  refine WO_callP (as' := [.agg [bv o, bv c, .list 1 md (d.map bv)]]) [] rfl rfl (fAEnc_spec o c d md hmd (by omega)) (by simp) (by simp) ?_
  have t1 : toBytes (AV.int IntKind.u8 96 :: AV.int IntKind.u8 ↑o.toNat :: AV.int IntKind.u8 ↑c.toNat :: List.map bv d) = some (96 :: o :: c :: d) := toBytes_bv (96 :: o :: c :: d)
  have t2 : toBytes [AV.int IntKind.u8 ↑o.toNat, AV.int IntKind.u8 ↑c.toNat] = some [o, c] := toBytes_bv [o, c]
  simp [t1, t2]
  repeat (refine ⟨by omega, ?_⟩)
  refine WO_callP (as' := [.list 1 ⟨false, false, false⟩ ((96 :: o :: c :: d : List UInt8).map bv)]) [] rfl rfl (fAnswered_spec (96 :: o :: c :: d) _ (by simp; omega)) (by simp [ansR]) (by simp) ?_
  simp [ansR, ansQ]
  refine WO_callP (as' := [.list 1 md1 (b.map bv)]) [] rfl rfl (fAnswered_spec b _ (by omega)) (by simp [ansR]) (by simp) ?_
  simp [ansR]
  have tail := fun G => opA_tail o c d l md md2 hmd hl (by omega) (by omega) G
  match b, h2, e2 with
  | [], _, _ =>
    simp [ansQ]
    exact tail _
  | [_], _, _ =>
    simp [ansQ]
    exact tail _
  | [_, _], _, _ =>
    simp [ansQ]
    exact tail _
  | x :: y :: z :: d', h2, e2 =>
    have e4 : ¬ (d'.length : Int) + 1 + 1 + 1 < 3 := by omega
    by_cases hx : x = 96
    · subst hx
      have t3 : toBytes (AV.int IntKind.u8 96 :: AV.int IntKind.u8 ↑y.toNat :: AV.int IntKind.u8 ↑z.toNat :: List.map bv d') = some (96 :: y :: z :: d') := toBytes_bv (96 :: y :: z :: d')
      simp [ansQ, e4, t3]
      refine WO_callP (as' := [.agg [bv y, bv z, .list 1 ⟨false, false, false⟩ (d'.map bv)]]) [] rfl rfl (fAEnc_spec y z d' _ rfl (by simp at h2; omega)) (by simp) (by simp [t3]) ?_
      simp [t3]
      exact tail _
    · simp [ansQ, e4, hx]
      exact tail _
theorem num_flat : ∀ ns : List { n : Nat // n < 2 ^ 32 }, ns.flatMap (fun x => [numV x.1]) = (ns.map Subtype.val).map numV
  | [] => rfl
  | x :: l => by
    rw [List.flatMap_cons, num_flat l]
    rfl
theorem fOpcodeAnswers_law : ∀ args, AllFit Try.prog 8 Try.f5.params.toList args → FSpec Try.prog 5 args [] (.bool true) [] := by
  intro args has
  rw [show Try.f5.params.toList = [44, 22, 45] from by rw [Try.params5]] at has
  obtain ⟨a, as1, rfl, h1, has⟩ := all_cons has
  obtain ⟨b, as2, rfl, h2, has⟩ := all_cons has
  obtain ⟨c, as3, rfl, h3, has⟩ := all_cons has
  cases all_nil has
  obtain ⟨xs, rfl, h⟩ := arg_struct Try.underlying44 h1
  obtain ⟨x1, y1, rfl, g1, x2, y2, rfl, g2, x4, y4, rfl, g4, rfl⟩ := h
  obtain ⟨o, rfl⟩ := fit_u8 Try.underlying5 g1
  obtain ⟨ty, rfl⟩ := fit_u8 Try.underlying5 g2
  obtain ⟨z, rfl⟩ := fit_one (by rw [Try.underlying22]) g4
  obtain ⟨nl, full, l, rfl, hl⟩ := fit_bytes Try.underlying22 Try.underlying5 (by kernel_rfl) (by kernel_rfl) g4
  obtain ⟨nl2, full2, b, rfl, hb⟩ := arg_bytes Try.underlying22 Try.underlying5 (by kernel_rfl) (by kernel_rfl) h2
  obtain ⟨nl3, full3, ns, rfl, hn⟩ := arg_slice (fun x : { n : Nat // n < 2 ^ 32 } => [numV x.1]) Try.underlying45 (fun y hy => by
    obtain ⟨m, m1, m2, rfl⟩ := fit_int Try.underlying49 hy
    simp [IntKind.min, IntKind.max, IntKind.signed, IntKind.bits] at m1 m2
    obtain ⟨n, rfl⟩ := Int.eq_ofNat_of_zero_le m1
    exact ⟨⟨n, by omega⟩, rfl⟩) h3
  rw [show Try.prog.cellsOf 49 = 1 by kernel_rfl]
  rw [num_flat ns]
  exact fOpA_spec o ty l b (ns.map Subtype.val) _ _ _ rfl (fun n hn => by
    obtain ⟨x, _, rfl⟩ := List.mem_map.1 hn
    exact x.2) (by omega) (by omega)
end Go.Proofs.Ytlffcidcopibmaa
