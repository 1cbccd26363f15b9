/-
  chapter 16
-/
import Derived.Test.YtlffcidcopibmaaT32
import Derived.Test.YtlffcidcopibmaaT33
set_option linter.unusedSimpArgs false
set_option linter.unusedVariables false
set_option linter.unusedSectionVars false
namespace Go.Proofs.Ytlffcidcopibmaa
open Go Go.Fw
attribute [local simp] bv cleanL_bv toBytes_bv ltL_bv atF_drop WS_at_bytes W_nil W_skip W_seq W_reg W_draw W_drawP W_kill W_keep W_block W_blk W_exit W_ret WX_blk WX_c WX_lp WX_li W_li W_condT W_condF W_cond WC_true WC_false
  WR_nil WR_cons WR_o1 WR_o2 o1_chk o2_chk WR_grd WG_tt WG_ff WG_tf WG_ft WG_none WS_some WS_ok1 WSr_no WSr_some WSr_ok1 WSr_at_bytes WH_some WHA_some chkF_cons chkF_nil chkE_some chkE_ok1 chkE_at evF WO_mv WO_pick WO_bin WO_isNil WO_eqA WO_un WO_convI WO_toStr WO_ofStr WO_build WO_buildF WO_load WO_nilCheck WO_fieldAddr WO_field WO_idxA WO_idxS
  WO_ixA WO_slS WO_slA WO_len WO_lenK WO_appF WO_extract WO_s2a WO_iface WO_min WO_max WO_alloc WO_box WO_buildO WO_store WO_appO WO_copy WO_makeS WO_allocA WO_makeA WO_cvt cvtF_slice WO_look lookF_map alAF mkAF WO_func bind1_v bind2_v bindH_v bindH2_v bindS_v okO_v pickO_t pickO_f
  Env.keep Env.get Env.set Env.del Env.dels Env.setO Env.opd Env.opds Env.opdO Env.parts intF aggF fillA splice cleanL AV.clean bndF fldF_one fldF_many toStrF boxF buildOF
  loadF_rptr loadF_rptrN atF_zero atF_succ blk_cons_zero blk_cons_succ loadF_p loadF_pN atB_some atBN_some retPost resL one
  okc_bool cells_bool notStr_bool okc_int cells_int notStr_int okc_str cells_str notStr_str okc_nil cells_nil notStr_nil okc_ptr cells_ptr notStr_ptr okc_rptr cells_rptr notStr_rptr okc_slice cells_slice notStr_slice 
  okc_list cells_list notStr_list okc_func cells_func notStr_func okc_nilFunc cells_nilFunc notStr_nilFunc okc_iface cells_iface notStr_iface okc_nilIface cells_nilIface notStr_nilIface okc_agg cells_agg notStr_agg 
  okc_tuple cells_tuple notStr_tuple lenF_slice lenF_list lenF_str faF_ptr faF_rptr idxSF_slice idxSF_list idxAF_ptr idxAF_rptr ixAF_many ixAF_one convF_int unF_neg unF_xor unF_not nilF_0nil nilF_0ptr nilF_0rptr nilF_1 
  nilF_2nil nilF_2f nilF_3nil nilF_3f binF_int binF_beq binF_bne binF_sadd binF_seq binF_sne sliceCells_list sliceCells_str sliceCells_slice cutC_some szAV_list szAV_str szAV_slice oneSl_list oneSl_slice slSF_sliceS 
  slSF_sliceN slSF_list slAF_rptr slAF_ptr appFF_list appOF_list appOF_sliceN appOF_sliceS storeF_ptr copyF_slice extF_tuple s2aF_slice s2aF_list nchkF_ptr nchkF_rptr nchkF_f mmF_int ofStrF_str mkSF_int eqAF_agg
attribute [local irreducible] W WX WR WO WS WSr WH WHA WG WC FSpec
attribute [local simp] lendAll
attribute [local congr] W_cg WR_cg WO_cg WS_cg WSr_cg WH_cg WHA_cg WG_cg WC_cg WX_cg
attribute [local simp] Env.has AV.wkr wkrL AV.wkr_refl wkrL_refl AV.ltI ltL leHW hasW Env.lt AV.ids idsL AV.sub subL AV.ren AV.frz frzS frzP frzE frzL Heap.frz Blk.frz Blk.ren renL rnS rnP hasR leR idsL_bv subL_bv
attribute [local simp] cleanL_take cleanL_drop ltL_take ltL_drop idsL_take idsL_drop subL_take subL_drop cleanL_append ltL_append idsL_append subL_append
attribute [local simp] renE mvN mvH
attribute [local simp] fwd backH putL bwd
attribute [local simp] u8i u8e List.idxOf_cons
attribute [local simp] hasRW leRW
def leB (n s : Nat) : List UInt8 := (List.range n).map fun i => UInt8.ofNat (s / 256 ^ i)
theorem leB_succ (n s : Nat) : leB (n + 1) s = leB n s ++ [UInt8.ofNat (s / 256 ^ n)] := by simp [leB, List.range_succ]
def preB (r : Req16) : List UInt8 := r.op :: (if 0 < fT r.op then [r.ty] else [])
/-- A request's bytes, as they would be. -/
def encB (r : Req16) : List UInt8 := preB r ++ leB (fS r.op) r.size ++ (if r.op = 8 then r.data else [])
/-- A request's bytes, if it is one. -/
def encQ (r : Req16) : List UInt8 × Int := if (parQ (encB r)).2 = 0 ∧ (parQ (encB r)).1 = r then (encB r, 0) else ([], 1)
theorem shr_u8 (s i : Nat) : IntKind.u8.wrap ((s : Int).fdiv (2 ^ (8 * i))) = ((UInt8.ofNat (s / 256 ^ i)).toNat : Int) := by
  have h1 : (s : Int).fdiv (2 ^ (8 * i)) = ((s / 256 ^ i : Nat) : Int) := by
    rw [show (256 : Nat) = 2 ^ 8 from rfl, ← Nat.pow_mul, show ((2 : Int) ^ (8 * i)) = ((2 ^ (8 * i) : Nat) : Int) by simp]
    exact (Int.ofNat_fdiv _ _).symm
  rw [h1, UInt8.toNat_ofNat']
  generalize s / 256 ^ i = n
  unfold IntKind.wrap
  simp [IntKind.signed, IntKind.bits]
def enH (r : Req16) (md : Md) (i : Nat) : Heap := [some ⟨[bv r.op, bv r.ty, .int .u32 r.size, .list 1 md (r.data.map bv)], 69, true⟩, some ⟨(preB r ++ leB i r.size).map bv, 5, false⟩]
theorem parQ_data (b : List UInt8) : (parQ b).1.data.length ≤ 64 := by
  cases b with
  | nil => simp [parQ, z16]
  | cons o r =>
    simp only [parQ]
    split
    · split
      · simp [z16]
      · split
        · simp [z16]
        · simp; omega
    · split
      · simp [z16]
      · split
        · simp [z16]
        · split <;> simp [z16]
theorem encQ_no {r : Req16} (h : ¬ ((parQ (encB r)).2 = 0 ∧ (parQ (encB r)).1 = r)) : encQ r = ([], 1) := by simp only [encQ]; rw [if_neg h]
theorem encQ_yes {r : Req16} (h : (parQ (encB r)).2 = 0 ∧ (parQ (encB r)).1 = r) : encQ r = (encB r, 0) := by simp only [encQ]; rw [if_pos h]
theorem req_ext {a b : Req16} (h1 : a.op = b.op) (h2 : a.ty = b.ty) (h3 : a.size = b.size) (h4 : a.data = b.data) : a = b := by cases a; cases b; simp_all
theorem enc_end (r : Req16) (md : Md) (hmd : md.bw = false) (hd : r.data.length < 2 ^ 30) (hn : (encB r).length < 2 ^ 32) (k : Nat) (G : Heap) (hG : (k = 1 ∧ G = [some ⟨(encB r).map bv, 5, false⟩]) ∨ (k = 2 ∧ G = [none, some ⟨(encB r).map bv, 5, false⟩])) :
    W Try.prog 0 [It.c (KCode.keep [1, 4]
          ((KCode.reg fREnc_r12).seq
            (((KCode.reg fREnc_r13).seq (KCode.cond (Opd.t 81) fREnc_k4 (KCode.kill [81] KCode.skip))).seq
              (KCode.keep [4] ((KCode.reg fREnc_r15).seq KCode.ret)))))]
      [(1, .ptr 0 0), (4, .slice 1 k 0 (encB r).length none)] (some ⟨[bv r.op, bv r.ty, .int .u32 r.size, .list 1 md (r.data.map bv)], 69, true⟩ :: G)
      (retPost fREnc_rs (fin 0 (.tuple [.list 1 ⟨false, false, false⟩ ((encQ r).1.map bv), .int .i64 (encQ r).2]) [])) := by
  have hdl := parQ_data (encB r)
  rcases hG with ⟨rfl, rfl⟩ | ⟨rfl, rfl⟩
  · simp
    refine WO_callP (as' := [.list 1 ⟨false, false, true⟩ ((encB r).map bv)]) [1] rfl (by simp [List.take_of_length_le]) (fPar_spec (encB r) _ (by omega)) (by simp [parR, reqV]) (by simp) ?_
    simp [parR, reqV]
    by_cases h0 : (parQ (encB r)).2 = 0
    · by_cases h1 : (parQ (encB r)).1.op = r.op
      · by_cases h2 : (parQ (encB r)).1.ty = r.ty
        · by_cases h3 : (parQ (encB r)).1.size = r.size
          · simp [h0, h1, h2, h3]
            refine WO_callP (as' := [.list 1 ⟨false, false, false⟩ ((parQ (encB r)).1.data.map bv), .list 1 md (r.data.map bv)]) [] rfl rfl (fSlEqual_spec _ r.data _ _ (by omega) (by omega)) (by simp) (by simp) ?_
            by_cases h4 : (parQ (encB r)).1.data = r.data
            · simp [h4]
              rw [encQ_yes ⟨h0, req_ext h1 h2 h3 h4⟩]
              refine fin_F 1 rfl (fin_W ?_)
              simp [List.take_of_length_le]
            · simp [h4]
              rw [encQ_no (fun h => h4 (congrArg Req16.data h.2))]
              refine fin_W ?_
              simp
          · have h3' : ¬ ((parQ (encB r)).1.size : Int) = (r.size : Int) := fun h => h3 (Int.natCast_inj.1 h)
            simp [h0, h1, h2, h3']
            rw [encQ_no (fun h => h3 (congrArg Req16.size h.2))]
            refine fin_W ?_
            simp
        · simp [h0, h1, h2]
          rw [encQ_no (fun h => h2 (congrArg Req16.ty h.2))]
          exact fin_W (by simp)
      · simp [h0, h1]
        rw [encQ_no (fun h => h1 (congrArg Req16.op h.2))]
        exact fin_W (by simp)
    · simp [h0]
      rw [encQ_no (fun h => h0 h.1)]
      exact fin_W (by simp)
  · simp
    refine WO_callP (as' := [.list 1 ⟨false, false, true⟩ ((encB r).map bv)]) [2] rfl (by simp [List.take_of_length_le]) (fPar_spec (encB r) _ (by omega)) (by simp [parR, reqV]) (by simp) ?_
    simp [parR, reqV]
    by_cases h0 : (parQ (encB r)).2 = 0
    · by_cases h1 : (parQ (encB r)).1.op = r.op
      · by_cases h2 : (parQ (encB r)).1.ty = r.ty
        · by_cases h3 : (parQ (encB r)).1.size = r.size
          · simp [h0, h1, h2, h3]
            refine WO_callP (as' := [.list 1 ⟨false, false, false⟩ ((parQ (encB r)).1.data.map bv), .list 1 md (r.data.map bv)]) [] rfl rfl (fSlEqual_spec _ r.data _ _ (by omega) (by omega)) (by simp) (by simp) ?_
            by_cases h4 : (parQ (encB r)).1.data = r.data
            · simp [h4]
              rw [encQ_yes ⟨h0, req_ext h1 h2 h3 h4⟩]
              refine fin_F 2 rfl (fin_W ?_)
              simp [List.take_of_length_le]
            · simp [h4]
              rw [encQ_no (fun h => h4 (congrArg Req16.data h.2))]
              refine fin_W ?_
              simp
          · have h3' : ¬ ((parQ (encB r)).1.size : Int) = (r.size : Int) := fun h => h3 (Int.natCast_inj.1 h)
            simp [h0, h1, h2, h3']
            rw [encQ_no (fun h => h3 (congrArg Req16.size h.2))]
            refine fin_W ?_
            simp
        · simp [h0, h1, h2]
          rw [encQ_no (fun h => h2 (congrArg Req16.ty h.2))]
          exact fin_W (by simp)
      · simp [h0, h1]
        rw [encQ_no (fun h => h1 (congrArg Req16.op h.2))]
        exact fin_W (by simp)
    · simp [h0]
      rw [encQ_no (fun h => h0 h.1)]
      exact fin_W (by simp)
theorem enc_loop (r : Req16) (md : Md) (hmd : md.bw = false) (hs : r.size < 2 ^ 32) (hd : r.data.length < 2 ^ 30) (e : Env) (H : Heap)
    (hc : cut 0 e H [(1, .ptr 0 0), (4, .slice 1 1 0 (preB r).length none), (25, .int .i64 (fS r.op)), (26, .int .i64 0)] (enH r md 0)) :
    W Try.prog 0 [It.c fREnc_l2.loop, It.blk 0, It.c (KCode.keep [1, 4]
                (((KCode.reg fREnc_r10).seq (KCode.cond (Opd.t 41) fREnc_k3 (KCode.kill [41] KCode.skip))).seq
                  (KCode.keep [1, 4]
                    ((KCode.reg fREnc_r12).seq
                      (((KCode.reg fREnc_r13).seq (KCode.cond (Opd.t 81) fREnc_k4 (KCode.kill [81] KCode.skip))).seq
                        (KCode.keep [4] ((KCode.reg fREnc_r15).seq KCode.ret)))))))] e H
      (retPost fREnc_rs (fin 0 (.tuple [.list 1 ⟨false, false, false⟩ ((encQ r).1.map bv), .int .i64 (encQ r).2]) [])) := by
  have hS : fS r.op ≤ 4 := by unfold fS; split <;> (try split) <;> omega
  have hpl : (preB r).length ≤ 2 := by unfold preB; split <;> simp
  have hlb : ∀ n, (leB n r.size).length = n := by intro n; simp [leB]
  refine W_loop (X := { i : Nat // i ≤ fS r.op }) (fun i => [(1, .ptr 0 0), (4, .slice 1 1 0 ((preB r).length + i.1) none), (25, .int .i64 (fS r.op)), (26, .int .i64 i.1)]) (fun i => enH r md i.1) (fun i => fS r.op - i.1) ⟨0, by simp⟩ retPost_le ?_ ?_
  · simpa using hc
  · rintro ⟨i, hi⟩
    simp only
    simp [enH]
    refine WC_dec (fun h => ?_) (fun h => ?_)
    · have hw2 : IntKind.i64.wrap (8 * (i : Int)) = ((8 * i : Nat) : Int) := by rw [wrap64 (by omega) (by omega)]; omega
      simp [hw2, hlb]
      refine ⟨by omega, ⟨by omega, by omega⟩, ?_⟩
      have hmin : min (8 * (i : Int)).toNat IntKind.u32.bits = 8 * i := by simp only [IntKind.bits]; omega
      rw [hmin, shr_u8]
      refine ⟨⟨i + 1, h⟩, ?_, ?_⟩
      · simp; omega
      · refine cut_rw [0, 2] (by simp) rfl ?_ ?_
        · simp
          rw [wrap64 (by omega) (by omega)]
          simp
          omega
        · simp [leB_succ, hlb, List.take_of_length_le]
    · have : i = fS r.op := by omega
      subst this
      have hbl : (encB r).length < 2 ^ 32 := by
        simp only [encB, List.length_append, hlb]
        split <;> simp <;> omega
      simp
      by_cases h8 : r.op = 8
      · have hS0 : fS r.op = 0 := by rw [h8]; rfl
        have := enc_end r md hmd hd hbl 2 [none, some ⟨(encB r).map bv, 5, false⟩] (.inr ⟨rfl, rfl⟩)
        have e8 : fS 8 = 0 := rfl
        simp [h8, e8]
        simp [h8, encB, e8, leB] at this
        refine ⟨by omega, ?_⟩
        simpa [leB, List.take_of_length_le] using this
      · simp [h8]
        have := enc_end r md hmd hd hbl 1 [some ⟨(encB r).map bv, 5, false⟩] (.inl ⟨rfl, rfl⟩)
        simpa [encB, h8, hlb] using this
theorem fREnc_spec (r : Req16) (md : Md) (hmd : md.bw = false) (hs : r.size < 2 ^ 32) (hd : r.data.length < 2 ^ 30) :
    FSpec Try.prog 33 [.agg [bv r.op, bv r.ty, .int .u32 r.size, .list 1 md (r.data.map bv)]] [] (.tuple [.list 1 ⟨false, false, false⟩ ((encQ r).1.map bv), .int .i64 (encQ r).2]) [] := by
  refine FSpec.of_W fREnc_low (by simp) ?_
  simp only [initEnv]
  simp [hmd]
  refine WO_callQ rfl (fForms_spec []) (by simp) ?_
  simp [look_forms0, frmV]
  refine WC_dec (fun h => ?_) (fun h => ?_)
  · simp
    refine enc_loop r md hmd hs hd _ _ (cut_rw [0, 3] (by simp) rfl ?_ ?_)
    · simp [preB, h]
    · simp [enH, preB, h, leB]
  · simp
    have := enc_loop r md hmd hs hd
    refine this _ _ (cut_w ?_)
    simp [enH, preB, h, leB]
end Go.Proofs.Ytlffcidcopibmaa
