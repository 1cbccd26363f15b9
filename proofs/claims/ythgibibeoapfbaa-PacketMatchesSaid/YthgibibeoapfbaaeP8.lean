/-
  Packets: images.
-/
import Derived.Test.YthgibibeoapfbaaeH8
set_option linter.unusedSimpArgs false
set_option linter.unusedVariables false
set_option linter.unusedSectionVars false
namespace Go.Proofs.Ythgibibeoapfbaa
open Go Go.Fw
attribute [local simp] bv cleanL_bv toBytes_bv ltL_bv atF_drop WS_at_bytes W_nil W_skip W_seq W_reg W_draw W_drawP W_kill W_keep W_block W_blk W_exit W_ret WX_blk WX_c WX_lp WX_li W_li W_condT W_condF W_cond WC_true WC_false
  WR_nil WR_cons WR_o1 WR_o2 o1_chk o2_chk WR_grd WG_tt WG_ff WG_tf WG_ft WG_none WS_some WS_ok1 WSr_no WSr_some WSr_ok1 WSr_at_bytes WH_some WHA_some chkF_cons chkF_nil chkE_some chkE_ok1 chkE_at evF WO_mv WO_pick WO_bin WO_isNil WO_eqA WO_un WO_convI WO_toStr WO_ofStr WO_build WO_buildF WO_load WO_nilCheck WO_fieldAddr WO_field WO_idxA WO_idxS
  WO_ixA WO_slS WO_slA WO_len WO_lenK WO_appF WO_extract WO_s2a WO_iface WO_min WO_max WO_alloc WO_box WO_buildO WO_store WO_appO WO_copy WO_makeS WO_allocA WO_makeA WO_cvt cvtF_slice WO_look lookF_map alAF mkAF WO_func bind1_v bind2_v bindH_v bindH2_v bindS_v okO_v pickO_t pickO_f
  Env.keep Env.get Env.set Env.del Env.dels Env.setO Env.opd Env.opds Env.opdO Env.parts intF aggF fillA splice cleanL AV.clean bndF fldF_one fldF_many toStrF boxF buildOF
  loadF_rptr loadF_rptrN atF_zero atF_succ blk_cons_zero blk_cons_succ loadF_p loadF_pN atB_some atBN_some retPost resL one
  okc_bool cells_bool notStr_bool okc_int cells_int notStr_int okc_str cells_str notStr_str okc_nil cells_nil notStr_nil okc_ptr cells_ptr notStr_ptr okc_rptr cells_rptr notStr_rptr okc_slice cells_slice notStr_slice 
  okc_list cells_list notStr_list okc_func cells_func notStr_func okc_nilFunc cells_nilFunc notStr_nilFunc okc_iface cells_iface notStr_iface okc_nilIface cells_nilIface notStr_nilIface okc_agg cells_agg notStr_agg 
  okc_tuple cells_tuple notStr_tuple lenF_slice lenF_list lenF_str faF_ptr faF_rptr idxSF_slice idxSF_list idxAF_ptr idxAF_rptr ixAF_many ixAF_one convF_int unF_neg unF_xor unF_not nilF_0nil nilF_0ptr nilF_0rptr nilF_1 
  nilF_2nil nilF_2f nilF_3nil nilF_3f binF_int binF_beq binF_bne binF_sadd binF_seq binF_sne sliceCells_list sliceCells_str sliceCells_slice cutC_some szAV_list szAV_str szAV_slice oneSl_list oneSl_slice slSF_sliceS 
  slSF_sliceN slSF_list slAF_rptr slAF_ptr appFF_list appOF_list appOF_sliceN appOF_sliceS storeF_ptr copyF_slice extF_tuple s2aF_slice s2aF_list nchkF_ptr nchkF_rptr nchkF_f mmF_int ofStrF_str mkSF_int eqAF_agg
attribute [local irreducible] W WX WR WO WS WSr WH WHA WG WC FSpec
attribute [local simp] lendAll
attribute [local congr] W_cg WR_cg WO_cg WS_cg WSr_cg WH_cg WHA_cg WG_cg WC_cg WX_cg
attribute [local simp] Env.has AV.wkr wkrL AV.wkr_refl wkrL_refl AV.ltI ltL leHW hasW Env.lt AV.ids idsL AV.sub subL AV.ren AV.frz frzS frzP frzE frzL Heap.frz Blk.frz Blk.ren renL rnS rnP hasR leR idsL_bv subL_bv
attribute [local simp] cleanL_take cleanL_drop ltL_take ltL_drop idsL_take idsL_drop subL_take subL_drop cleanL_append ltL_append idsL_append subL_append
attribute [local simp] renE mvN mvH
attribute [local simp] fwd backH putL bwd
attribute [local simp] u8i u8e List.idxOf_cons
attribute [local simp] hasRW leRW
attribute [local simp] WS_at_map WSr_at_map WS_at_arr WSr_at_arr loadWP splice_full Int.natCast_inj ltL_pkP ltL_pkR
theorem fPHash_spec (b : List UInt8) (md : Md) (hb : b.length < 2 ^ 40) : FSpec Try.prog 20 [.list 1 md (b.map bv)] [] (.list 1 ⟨false, false, false⟩ ((dgst F32 b).map bv)) [] := by
  have hs := fSum3_spec F32 (.inl rfl) okF32 b md hb
  obtain ⟨D, hD⟩ : ∃ D, D = dgst F32 b := ⟨_, rfl⟩
  rw [← hD] at hs ⊢
  refine FSpec.of_W fPHash_low (by simp) ?_
  simp only [initEnv]
  simp
  refine WO_callP [] rfl rfl fShort_spec (by simp) (by simp) ?_
  simp
  refine WO_callP [] rfl rfl hs (by simp) (by simp) ?_
  simp
  exact fin_W (by simp)
theorem w64n {n : Nat} (h : n < 2 ^ 64) : IntKind.u64.wrap (n : Int) = (n : Nat) := by
  unfold IntKind.wrap
  simp [IntKind.signed, IntKind.bits]
  omega
/-- Whether bytes are a packet's image. -/
def mtc (p : Pkt) (b : List UInt8) : Int := if b.length ≠ p.sz then 12 else if dgst F32 b ≠ p.hash then 14 else 0
theorem fPMatch_spec (p : Pkt) (hp : p.Ok) (l : List (Md × List UInt8)) (md : Md) (hl : (allB l).length < 2 ^ 40) (hn : l.length < 2 ^ 40) : FSpec Try.prog 21 [.agg (pkP p), .list 1 md (l.map lsV)] [] (.int .i64 (mtc p (allB l))) [] := by
  refine FSpec.of_W fPMatch_low (by simp) ?_
  simp only [initEnv]
  simp [pkP_load p hp]
  have hA : ∀ k, k ≤ l.length → (allB (l.take k)).length ≤ (allB l).length := fun k hk => by
    have h := congrArg allB (List.take_append_drop k l)
    have h2 : allB (l.take k ++ l.drop k) = allB (l.take k) ++ allB (l.drop k) := by simp only [allB, List.flatMap_append]
    rw [h2] at h
    rw [← h]; simp only [List.length_append]; omega
  refine W_loop (X := { i : Nat // i ≤ l.length }) (fun i => [(1, .list 1 md (l.map lsV)), (2, .ptr 0 0), (5, .int .u64 ((allB (l.take i.1)).length : Nat)), (8, .list 1 md (l.map lsV)), (9, .int .i64 l.length), (10, .int .i64 i.1)]) (fun i => [some ⟨pkP p, 28, true⟩]) (fun i => l.length - i.1) ⟨0, by simp⟩ retPost_le ?_ ?_
  · refine cut_w ?_
    simp [allB]
  · rintro ⟨i, hi⟩
    simp only
    simp
    refine WC_dec (fun h => ?_) (fun h => ?_)
    · have hx : l[i]? = some l[i] := List.getElem?_eq_getElem (by omega)
      have hb : allB (l.take (i + 1)) = allB (l.take i) ++ l[i].2 := by rw [List.take_add_one, hx]; simp only [allB, List.flatMap_append, Option.toList_some, List.flatMap_cons, List.flatMap_nil, List.append_nil]
      have hB := hA (i + 1) (by omega)
      rw [hb, List.length_append] at hB
      simp [hx, lsV]
      rw [w64n (n := l[i].2.length) (by omega), ← Int.natCast_add, w64n (by omega), wrap64 (n := (i : Int) + 1) (by omega) (by omega)]
      refine ⟨by omega, ⟨i + 1, by omega⟩, by simp; omega, cut_w ?_⟩
      simp [hb, lsV]
    · have : i = l.length := by omega
      subst this
      simp
      have a3 : atF (pkP p) 3 = ok1 (.int .u32 (p.sz : Nat)) := rfl
      simp [a3]
      have hz := hp.sz
      rw [w64n (n := p.sz) (by omega)]
      refine WC_ndec (fun hq => ?_) (fun hq => ?_)
      · simp
        rw [mtc, if_pos (by omega)]
        exact fin_W (by simp)
      · simp
        have hd4 : ((pkP p).drop 4).take 32 = p.hash.map bv := by
          have h32 : (p.hash.map bv).length = 32 := by simp [hp.hash]
          simp [pkP, List.take_append, h32, List.take_of_length_le]
        have ho := fHOf_spec l md (by omega) (by omega)
        have hdl : (dgst F32 (allB l)).length = 32 := by simp
        obtain ⟨D, hD⟩ : ∃ D, D = dgst F32 (allB l) := ⟨_, rfl⟩
        rw [← hD] at ho hdl
        rw [hd4]
        refine ⟨by rw [(pkP_load p hp).1]; omega, ?_⟩
        refine WO_callP [] rfl rfl ho (by simp) (by simp [hd4, (pkP_load p hp).1]) ?_
        simp
        refine ⟨⟨hasK_bytes D hdl, hasK_bytes p.hash hp.hash⟩, ?_⟩
        rw [mtc, if_neg (by omega), ← hD, ite_not]
        refine WC_ndec (fun hr => ?_) (fun hr => ?_)
        · simp
          rw [ints_bytes_inj] at hr
          rw [if_neg hr]
          exact fin_W (by simp)
        · simp
          rw [ints_bytes_inj] at hr
          rw [if_pos hr]
          exact fin_W (by simp)
theorem fPRMatch_spec (p : Pkt) (hp : p.Ok) (b : List UInt8) (md : Md) (hb : b.length < 2 ^ 40) : FSpec Try.prog 22 [.agg (pkR p), .list 1 md (b.map bv)] [] (.int .i64 (mtc p b)) [] := by
  refine FSpec.of_W fPRMatch_low (by simp) ?_
  simp only [initEnv]
  simp [pkR_load p hp]
  have a2 : atF (pkR p) 2 = ok1 (.int .u32 (p.sz : Nat)) := rfl
  have hz := hp.sz
  have e1 : IntKind.u64.wrap (b.length : Int) = (b.length : Nat) := w64n (by omega)
  have e2 : IntKind.u64.wrap (p.sz : Int) = (p.sz : Nat) := w64n (by omega)
  have hs := fSum3_spec F32 (.inl rfl) okF32 b md hb
  have hdl : (dgst F32 b).length = 32 := by simp
  simp [a2, e1, e2]
  refine WC_ndec (fun h => ?_) (fun h => ?_)
  · simp
    rw [mtc, if_pos (by omega)]
    exact fin_W (by simp)
  simp
  refine WO_callP [] rfl rfl fShort_spec (by simp) (by simp) ?_
  simp
  obtain ⟨D, hD⟩ : ∃ D, D = dgst F32 b := ⟨_, rfl⟩
  rw [← hD] at hs hdl
  refine WO_callP [] rfl rfl hs (by simp) (by simp) ?_
  simp
  refine W_loop (X := { i : Nat // i ≤ 32 ∧ D.take i = p.hash.take i }) (fun i => [(2, .ptr 0 0), (5, .list 1 ⟨false, false, false⟩ (D.map bv)), (6, .int .i64 i.1)]) (fun i => [some ⟨pkR p, 37, true⟩]) (fun i => 32 - i.1) ⟨0, by simp⟩ retPost_le ?_ ?_
  · refine cut_w ?_
    simp
  · rintro ⟨i, hi, hE⟩
    simp only
    simp
    refine WC_dec (fun h => ?_) (fun h => ?_)
    · simp
      have hhl : i < p.hash.length := by have := hp.hash; omega
      have hdi : D[i]? = some D[i] := List.getElem?_eq_getElem (by omega)
      have hhi : p.hash[i]? = some p.hash[i] := List.getElem?_eq_getElem hhl
      have a4 : atF (pkR p) (4 + i) = ok1 (bv p.hash[i]) := by
        have hh := hp.hash
        unfold atF; rw [show 4 + i = i + 1 + 1 + 1 + 1 by omega]
        simp [pkR, List.getElem?_append, hh, show i < 32 by omega, hhi]
      simp [a4, hdi]
      refine ⟨by omega, by omega, ?_⟩
      refine WC_ndec (fun hq => ?_) (fun hq => ?_)
      · have e : mtc p b = 14 := by
          rw [mtc, if_neg (by omega), ← hD, if_pos (fun q => hq (by simp [q]))]
        simp
        rw [e]
        exact fin_W (by simp)
      · simp
        rw [wrap64 (by omega) (by omega)]
        refine ⟨⟨i + 1, by omega, by rw [List.take_add_one, List.take_add_one, hE, hdi, hhi, UInt8.toNat_inj.1 hq]⟩, by simp; omega, cut_w ?_⟩
        simp
    · simp
      have : i = 32 := by omega
      subst this
      rw [List.take_of_length_le (by omega), List.take_of_length_le (by rw [hp.hash]; omega)] at hE
      rw [mtc, if_neg (by omega), ← hD, if_neg (by simp [hE])]
      exact fin_W (by simp)
end Go.Proofs.Ythgibibeoapfbaa
