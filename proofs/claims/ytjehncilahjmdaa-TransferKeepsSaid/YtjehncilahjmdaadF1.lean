/-
  Flash: small functions.
-/
import Derived.Test.YtjehncilahjmdaaL1
import Derived.Test.YtjehncilahjmdaadKF
set_option linter.unusedSimpArgs false
set_option linter.unnecessarySimpa false
set_option linter.unusedVariables false
set_option linter.unusedSectionVars false
namespace Go.Proofs.Ytjehncilahjmdaa
open Go Go.Fw
attribute [local simp] bv cleanL_bv toBytes_bv ltL_bv atF_drop WS_at_bytes W_nil W_skip W_seq W_reg W_draw W_drawP W_kill W_keep W_block W_blk W_exit W_ret WX_blk WX_c WX_lp WX_li W_li W_condT W_condF W_cond WC_true WC_false
  WR_nil WR_cons WR_o1 WR_o2 o1_chk o2_chk WR_grd WG_tt WG_ff WG_tf WG_ft WG_none WS_some WS_ok1 WSr_no WSr_some WSr_ok1 WSr_at_bytes WH_some WHA_some chkF_cons chkF_nil chkE_some chkE_ok1 chkE_at evF WO_mv WO_pick WO_bin WO_isNil WO_eqA WO_un WO_convI WO_toStr WO_ofStr WO_build WO_buildF WO_load WO_nilCheck WO_fieldAddr WO_field WO_idxA WO_idxS
  WO_ixA WO_slS WO_slA WO_len WO_lenK WO_appF WO_extract WO_s2a WO_iface WO_min WO_max WO_alloc WO_box WO_buildO WO_store WO_appO WO_copy WO_makeS WO_allocA WO_makeA WO_cvt cvtF_slice WO_look lookF_map alAF mkAF WO_func bind1_v bind2_v bindH_v bindH2_v bindS_v okO_v pickO_t pickO_f
  Env.keep Env.get Env.set Env.del Env.dels Env.setO Env.opd Env.opds Env.opdO Env.parts intF aggF fillA splice cleanL AV.clean bndF fldF_one fldF_many toStrF boxF buildOF
  loadF_rptr loadF_rptrN atF_zero atF_succ blk_cons_zero blk_cons_succ loadF_p loadF_pN atB_some atBN_some retPost resL one
  okc_bool cells_bool notStr_bool okc_int cells_int notStr_int okc_str cells_str notStr_str okc_nil cells_nil notStr_nil okc_ptr cells_ptr notStr_ptr okc_rptr cells_rptr notStr_rptr okc_slice cells_slice notStr_slice 
  okc_list cells_list notStr_list okc_func cells_func notStr_func okc_nilFunc cells_nilFunc notStr_nilFunc okc_iface cells_iface notStr_iface okc_nilIface cells_nilIface notStr_nilIface okc_agg cells_agg notStr_agg 
  okc_tuple cells_tuple notStr_tuple lenF_slice lenF_list lenF_str faF_ptr faF_rptr idxSF_slice idxSF_list idxAF_ptr idxAF_rptr ixAF_many ixAF_one convF_int unF_neg unF_xor unF_not nilF_0nil nilF_0ptr nilF_0rptr nilF_1 
  nilF_2nil nilF_2f nilF_3nil nilF_3f binF_int binF_beq binF_bne binF_sadd binF_seq binF_sne sliceCells_list sliceCells_str sliceCells_slice cutC_some szAV_list szAV_str szAV_slice oneSl_list oneSl_slice slSF_sliceS 
  slSF_sliceN slSF_list slAF_rptr slAF_ptr appFF_list appOF_list appOF_sliceN appOF_sliceS storeF_ptr copyF_slice extF_tuple s2aF_slice s2aF_list nchkF_ptr nchkF_rptr nchkF_f mmF_int ofStrF_str mkSF_int eqAF_agg
attribute [local irreducible] W WX WR WO WS WSr WH WHA WG WC FSpec
attribute [local simp] lendAll
attribute [local congr] W_cg WR_cg WO_cg WS_cg WSr_cg WH_cg WHA_cg WG_cg WC_cg WX_cg
attribute [local simp] Env.has AV.wkr wkrL AV.wkr_refl wkrL_refl AV.ltI ltL leHW hasW Env.lt AV.ids idsL AV.sub subL AV.ren AV.frz frzS frzP frzE frzL Heap.frz Blk.frz Blk.ren renL rnS rnP hasR leR idsL_bv subL_bv
attribute [local simp] cleanL_take cleanL_drop ltL_take ltL_drop idsL_take idsL_drop subL_take subL_drop cleanL_append ltL_append idsL_append subL_append
attribute [local simp] renE mvN mvH
attribute [local simp] fwd backH putL bwd
attribute [local simp] u8i u8e List.idxOf_cons
attribute [local simp] hasRW leRW
attribute [local simp] WS_at_map WSr_at_map loadWP splice_full Int.natCast_inj
/-- A flash in memory. -/
def flP (f : Fl) : Heap := [some ⟨[.slice 1 1 0 f.b.length none, .int .i64 f.lo, .int .i64 f.hi, .int .i64 f.ops, .bool f.armed, .int .i64 f.left, .int .u32 (f.tear : Nat), .bool f.off, .slice 1 2 0 f.worn.length none], 95, true⟩, some ⟨f.b.map bv, 5, false⟩, some ⟨f.worn.map iv, 3, false⟩]
theorem fCloneB_spec (b : List UInt8) (md : Md) (hb : b.length < 2 ^ 47) : FSpec Try.prog 55 [.list 1 md (b.map bv)] [] (.list 1 ⟨false, false, false⟩ (b.map bv)) [] := by
  by_cases h0 : md.nl = true ∧ b ≠ []
  · exact FSpec.not_nil (i := 0) rfl h0.1 (by simpa using h0.2)
  refine FSpec.of_W fCloneB_low (by simp) ?_
  simp only [initEnv]
  simp
  refine W_regN rfl rfl (fun c hc => ?_)
  simp at hc
  simp
  refine WC_b (fun h => ?_) (fun h => ?_)
  · have : b = [] := by
      rcases b with _ | ⟨x, b⟩
      · rfl
      · subst h; simp at hc h0; exact absurd hc.symm (by simp [h0])
    subst this
    simp
    exact fin_W (by simp)
  · simp
    refine ⟨by omega, ?_⟩
    exact fin_W (by simp)
theorem fFlGet_spec (b : List UInt8) (md : Md) (h : 4 ≤ b.length) : FSpec Try.prog 54 [.list 1 md (b.map bv)] [] (.int .u32 (byN (b.take 4) : Nat)) [] := by
  obtain ⟨b0, b1, b2, b3, r, rfl⟩ : ∃ b0 b1 b2 b3 r, b = b0 :: b1 :: b2 :: b3 :: r := by
    rcases b with _ | ⟨b0, _ | ⟨b1, _ | ⟨b2, _ | ⟨b3, r⟩⟩⟩⟩ <;> simp at h
    exact ⟨_, _, _, _, _, rfl⟩
  have h4 := le4 b0 b1 b2 b3
  rw [show (b0 :: b1 :: b2 :: b3 :: r).take 4 = [b0, b1, b2, b3] by simp]
  obtain ⟨v, hv⟩ : ∃ v, v = byN [b0, b1, b2, b3] := ⟨_, rfl⟩
  rw [← hv] at h4 ⊢
  refine FSpec.of_W fFlGet_low (by simp) ?_
  simp only [initEnv]
  simp [wrap_b32, IntKind.bits, h4]
  exact fin_W (by simp)
theorem fFlPut_spec (b : List UInt8) (off len : Nat) (kc : Option Nat) (w : Nat) (T : Nat) (ex : Bool) (hl : 4 ≤ len) (h : off + len ≤ b.length) (hlen : len < 2 ^ 40) : FSpec Try.prog 75 [.slice 1 0 off len kc, .int .u32 (w : Nat)] [some ⟨b.map bv, T, ex⟩] (.tuple []) [some ⟨(ovw b off (byL 4 w)).map bv, T, ex⟩] := by
  refine FSpec.of_W fFlPut_low (by simp) ?_
  simp only [initEnv]
  simp
  refine W_loop (X := { i : Nat // i ≤ 4 }) (fun i => [(0, .slice 1 0 off len kc), (1, .int .u32 (w : Nat)), (5, .int .i64 i.1)]) (fun i => [some ⟨(ovw b off (byL i.1 w)).map bv, T, ex⟩]) (fun i => 4 - i.1) ⟨0, by simp⟩ retPost_le ?_ ?_
  · refine cut_w ?_
    simp [byL, ovw_nil]
  · rintro ⟨i, hi⟩
    simp only
    simp
    refine WC_dec (fun h1 => ?_) (fun h1 => ?_)
    · have e1 : IntKind.i64.wrap (8 * (i : Int)) = ((8 * i : Nat) : Int) := by rw [show (8 : Int) * i = ((8 * i : Nat) : Int) by omega]; exact wrap64 (by omega) (by omega)
      have e2 : ((w : Nat) : Int).fdiv (2 ^ min (8 * (i : Int)).toNat 32) = ((w / 2 ^ (8 * i) : Nat) : Int) := by rw [show min (8 * (i : Int)).toNat 32 = 8 * i by omega]; exact shr_nat _ _
      have e3 := wrap8_u8 (w / 2 ^ (8 * i))
      have e4 : (2 : Nat) ^ (8 * i) = 256 ^ i := by rw [Nat.pow_mul]
      have hle : (byL i w).length = i := byL_len i w
      rw [e4] at e2 e3
      obtain ⟨v, hv⟩ : ∃ v, v = w / 256 ^ i := ⟨_, rfl⟩
      obtain ⟨x, hx⟩ : ∃ x, x = UInt8.ofNat v := ⟨_, rfl⟩
      rw [← hv] at e2 e3
      rw [← hx] at e3
      simp [e1, e2, e3, IntKind.bits]
      refine ⟨by omega, by omega, by rw [ovw_len] <;> omega, ⟨i + 1, by omega⟩, by simp; omega, cut_w ?_⟩
      have e5 : ((ovw b off (byL i w)).map bv).set (off + i) (.int .u8 (x.toNat : Int)) = (ovw b off (byL (i + 1) w)).map bv := by
        rw [byL_succ, ← hv, ← hx, ← ovw_snoc (by omega), hle, List.map_set]
        rfl
      simp [e5, wrap64 (n := (i : Int) + 1) (by omega) (by omega)]
    · have : i = 4 := by omega
      subst this
      simp
      exact fin_W (by simp)
theorem fFlStep_spec (f : Fl) (hf : f.Ok) : FSpec Try.prog 56 [.ptr 0 0] (flP f) (.bool (stepF f).1) (flP (stepF f).2) := by
  have h3 := hf.left
  refine FSpec.of_W fFlStep_low (by simp) ?_
  simp only [initEnv, flP, stepF]
  simp
  cases ha : f.armed
  · simp
    exact fin_W (by simp)
  · simp
    by_cases h0 : f.left = 0
    · simp [h0]
      exact fin_W (by simp)
    · simp [h0]
      rw [wrap64s (n := f.left - 1) (by omega) (by omega)]
      exact fin_W (by simp)
theorem fFlLocked_spec (f : Fl) (page : Int) : FSpec Try.prog 52 [.ptr 0 0, .int .i64 page] (flP f) (.bool (decide (f.lo ≤ page ∧ page < f.hi))) (flP f) := by
  refine FSpec.of_W fFlLocked_low (by simp) ?_
  simp only [initEnv, flP]
  simp
  by_cases h : f.lo ≤ page
  · simp [h]
    exact fin_W (by simp)
  · simp [h]
    exact fin_W (by simp)
theorem fFlFail_spec (f : Fl) (after : Int) (tear : Nat) : FSpec Try.prog 14 [.ptr 0 0, .int .i64 after, .int .u32 (tear : Nat)] (flP f) (.int .i64 (failF f after tear).1) (flP (failF f after tear).2) := by
  refine FSpec.of_W fFlFail_low (by simp) ?_
  simp only [initEnv, flP, failF]
  simp
  by_cases h : after < 0
  · simp [h]
    exact fin_W (by simp)
  · simp [h]
    exact fin_W (by simp)
theorem fFlOff_spec (f : Fl) : FSpec Try.prog 16 [.ptr 0 0] (flP f) (.bool f.off) (flP f) := by
  refine FSpec.of_W fFlOff_low (by simp) ?_
  simp only [initEnv, flP]
  simp
  exact fin_W (by simp)
theorem fFlPower_spec (f : Fl) : FSpec Try.prog 17 [.ptr 0 0] (flP f) (.tuple []) (flP (powerF f)) := by
  refine FSpec.of_W fFlPower_low (by simp) ?_
  simp only [initEnv, flP, powerF]
  simp
  exact fin_W (by simp)
theorem fFlSize_spec (f : Fl) : FSpec Try.prog 21 [.ptr 0 0] (flP f) (.int .i64 f.b.length) (flP f) := by
  refine FSpec.of_W fFlSize_low (by simp) ?_
  simp only [initEnv, flP]
  simp
  exact fin_W (by simp)
theorem fFlRead_spec (f : Fl) (hf : f.Ok) (at_ n : Int) (h1 : -2 ^ 63 ≤ at_ ∧ at_ < 2 ^ 63) : FSpec Try.prog 18 [.ptr 0 0, .int .i64 at_, .int .i64 n] (flP f) (.tuple [.list 1 ⟨false, false, false⟩ ((readF f at_ n).1.map bv), .int .i64 (readF f at_ n).2]) (flP f) := by
  have hl := hf.len
  have hp := hf.pages
  refine FSpec.of_W fFlRead_low (by simp) ?_
  simp only [initEnv, flP, readF]
  simp
  cases ho : f.off
  · by_cases c1 : at_ < 0
    · simp [c1]
      exact fin_W (by simp)
    by_cases c2 : n < 0
    · simp [c1, c2]
      exact fin_W (by simp)
    by_cases c3 : (f.b.length : Int) < at_
    · simp [c1, c2, c3]
      exact fin_W (by simp)
    have e1 : IntKind.i64.wrap ((f.b.length : Int) - at_) = (f.b.length : Int) - at_ := wrap64s (by omega) (by omega)
    by_cases c4 : (f.b.length : Int) - at_ < n
    · simp [c1, c2, c3, e1, c4]
      exact fin_W (by simp)
    have e2 : IntKind.i64.wrap (at_ + n) = at_ + n := wrap64s (by omega) (by omega)
    obtain ⟨a, rfl⟩ : ∃ a : Nat, at_ = a := ⟨at_.toNat, by omega⟩
    obtain ⟨k, rfl⟩ : ∃ k : Nat, n = k := ⟨n.toNat, by omega⟩
    simp [c1, c2, c3, e1, e2, c4]
    refine ⟨by omega, ?_⟩
    have hc := fCloneB_spec ((f.b.drop a).take k) ⟨false, false, true⟩ (by simp; omega)
    rw [show ((a : Int) + k).toNat - a = k by omega]
    refine WO_callP (as' := [.list 1 ⟨false, false, true⟩ (((f.b.drop a).take k).map bv)]) [1] rfl (by simp; omega) hc (by simp) (by simp) ?_
    simp
    exact fin_W (by simp)
  · simp
    exact fin_W (by simp)
theorem fFlNew_spec (n : Nat) (h1 : 1 ≤ n) (h2 : n ≤ 64) : FSpec Try.prog 13 [.int .i64 n] [] (.tuple [.ptr 0 0, .int .i64 0]) (flP (newF n)) := by
  have e1 : IntKind.i64.wrap ((n : Int) * 256) = ((n * 256 : Nat) : Int) := by rw [show (n : Int) * 256 = ((n * 256 : Nat) : Int) by omega]; exact wrap64 (by omega) (by omega)
  rw [Int.natCast_mul] at e1
  refine FSpec.of_W fFlNew_low (by simp) ?_
  simp only [initEnv]
  simp [show ¬ (n : Int) < 1 by omega, show ¬ (64 : Int) < n by omega, e1]
  refine ⟨by omega, by omega, ?_⟩
  refine W_loop (X := { i : Nat // i ≤ 256 * n }) (fun i => [(4, .ptr 2 0), (23, .int .i64 (256 * n : Nat)), (24, .int .i64 i.1)]) (fun i => [some ⟨(List.replicate i.1 (255 : UInt8) ++ List.replicate (256 * n - i.1) 0).map bv, 5, true⟩, some ⟨(List.replicate n (0 : Int)).map iv, 3, true⟩, some ⟨[.slice 1 0 0 (256 * n) none, .int .i64 0, .int .i64 0, .int .i64 0, .bool false, .int .i64 0, .int .u32 0, .bool false, .slice 1 1 0 n none], 95, true⟩]) (fun i => 256 * n - i.1) ⟨0, by simp⟩ retPost_le ?_ ?_
  · refine cut_w ?_
    rw [show ((n : Int) * 256).toNat = 256 * n by omega, show max ((n : Int) * 256) 0 = ((256 * n : Nat) : Int) by omega]
    simp [iv, bv]
  · rintro ⟨i, hi⟩
    simp only
    simp
    refine WC_dec (fun h => ?_) (fun h => ?_)
    · simp
      refine ⟨by omega, by omega, ⟨i + 1, by omega⟩, by simp; omega, cut_w ?_⟩
      have e2 : List.replicate i (AV.int .u8 255) ++ (List.replicate (256 * n - i) (AV.int .u8 0)).set 0 (AV.int .u8 255) = List.replicate (i + 1) (AV.int .u8 255) ++ List.replicate (256 * n - (i + 1)) (AV.int .u8 0) := by
        rw [show 256 * n - i = (256 * n - (i + 1)) + 1 by omega, List.replicate_succ, List.set_cons_zero, List.replicate_succ', List.append_assoc]
        rfl
      simp [e2, wrap64 (n := (i : Int) + 1) (by omega) (by omega)]
    · have : i = 256 * n := by omega
      subst this
      simp
      refine fin_R [2, 0, 1] (by simp) rfl (by simp) (H1 := [some ⟨[.slice 1 1 0 (256 * n) none, .int .i64 0, .int .i64 0, .int .i64 0, .bool false, .int .i64 0, .int .u32 0, .bool false, .slice 1 2 0 n none], 95, true⟩, some ⟨(List.replicate (256 * n) (255 : UInt8)).map bv, 5, true⟩, some ⟨(List.replicate n (0 : Int)).map iv, 3, true⟩]) (by simp) (fin_W ?_)
      simp [flP, newF]
end Go.Proofs.Ytjehncilahjmdaa
