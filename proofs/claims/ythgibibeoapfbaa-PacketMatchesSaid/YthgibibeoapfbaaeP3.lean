/-
  Packets: the document's bytes.
-/
import Derived.Test.YthgibibeoapfbaaeP2
set_option linter.unusedSimpArgs false
set_option linter.unusedVariables false
set_option linter.unusedSectionVars false
namespace Go.Proofs.Ythgibibeoapfbaa
open Go Go.Fw
attribute [local simp] bv cleanL_bv toBytes_bv ltL_bv atF_drop WS_at_bytes W_nil W_skip W_seq W_reg W_draw W_drawP W_kill W_keep W_block W_blk W_exit W_ret WX_blk WX_c WX_lp WX_li W_li W_condT W_condF W_cond WC_true WC_false
  WR_nil WR_cons WR_o1 WR_o2 o1_chk o2_chk WR_grd WG_tt WG_ff WG_tf WG_ft WG_none WS_some WS_ok1 WSr_no WSr_some WSr_ok1 WSr_at_bytes WH_some WHA_some chkF_cons chkF_nil chkE_some chkE_ok1 chkE_at evF WO_mv WO_pick WO_bin WO_isNil WO_eqA WO_un WO_convI WO_toStr WO_ofStr WO_build WO_buildF WO_load WO_nilCheck WO_fieldAddr WO_field WO_idxA WO_idxS
  WO_ixA WO_slS WO_slA WO_len WO_lenK WO_appF WO_extract WO_s2a WO_iface WO_min WO_max WO_alloc WO_box WO_buildO WO_store WO_appO WO_copy WO_makeS WO_allocA WO_makeA WO_cvt cvtF_slice WO_look lookF_map alAF mkAF WO_func bind1_v bind2_v bindH_v bindH2_v bindS_v okO_v pickO_t pickO_f
  Env.keep Env.get Env.set Env.del Env.dels Env.setO Env.opd Env.opds Env.opdO Env.parts intF aggF fillA splice cleanL AV.clean bndF fldF_one fldF_many toStrF boxF buildOF
  loadF_rptr loadF_rptrN atF_zero atF_succ blk_cons_zero blk_cons_succ loadF_p loadF_pN atB_some atBN_some retPost resL one
  okc_bool cells_bool notStr_bool okc_int cells_int notStr_int okc_str cells_str notStr_str okc_nil cells_nil notStr_nil okc_ptr cells_ptr notStr_ptr okc_rptr cells_rptr notStr_rptr okc_slice cells_slice notStr_slice 
  okc_list cells_list notStr_list okc_func cells_func notStr_func okc_nilFunc cells_nilFunc notStr_nilFunc okc_iface cells_iface notStr_iface okc_nilIface cells_nilIface notStr_nilIface okc_agg cells_agg notStr_agg 
  okc_tuple cells_tuple notStr_tuple lenF_slice lenF_list lenF_str faF_ptr faF_rptr idxSF_slice idxSF_list idxAF_ptr idxAF_rptr ixAF_many ixAF_one convF_int unF_neg unF_xor unF_not nilF_0nil nilF_0ptr nilF_0rptr nilF_1 
  nilF_2nil nilF_2f nilF_3nil nilF_3f binF_int binF_beq binF_bne binF_sadd binF_seq binF_sne sliceCells_list sliceCells_str sliceCells_slice cutC_some szAV_list szAV_str szAV_slice oneSl_list oneSl_slice slSF_sliceS 
  slSF_sliceN slSF_list slAF_rptr slAF_ptr appFF_list appOF_list appOF_sliceN appOF_sliceS storeF_ptr copyF_slice extF_tuple s2aF_slice s2aF_list nchkF_ptr nchkF_rptr nchkF_f mmF_int ofStrF_str mkSF_int eqAF_agg
attribute [local irreducible] W WX WR WO WS WSr WH WHA WG WC FSpec
attribute [local simp] lendAll
attribute [local congr] W_cg WR_cg WO_cg WS_cg WSr_cg WH_cg WHA_cg WG_cg WC_cg WX_cg
attribute [local simp] Env.has AV.wkr wkrL AV.wkr_refl wkrL_refl AV.ltI ltL leHW hasW Env.lt AV.ids idsL AV.sub subL AV.ren AV.frz frzS frzP frzE frzL Heap.frz Blk.frz Blk.ren renL rnS rnP hasR leR idsL_bv subL_bv
attribute [local simp] cleanL_take cleanL_drop ltL_take ltL_drop idsL_take idsL_drop subL_take subL_drop cleanL_append ltL_append idsL_append subL_append
attribute [local simp] renE mvN mvH
attribute [local simp] fwd backH putL bwd
attribute [local simp] u8i u8e List.idxOf_cons
attribute [local simp] hasRW leRW
attribute [local simp] WS_at_map WSr_at_map WS_at_arr WSr_at_arr loadWP splice_full Int.natCast_inj
theorem fPRWord_spec (n : Nat) (hn : n < 2 ^ 32) : FSpec Try.prog 55 [.int .u32 (n : Nat)] [] (.list 1 ⟨false, false, false⟩ ((byL 4 n).map bv)) [] := by
  refine FSpec.of_W fPRWord_low (by simp) ?_
  simp only [initEnv]
  simp
  have hlb : ∀ k, (byL k n).length = k := by intro k; simp [byL]
  refine W_loop (X := { i : Nat // i ≤ 4 }) (fun i => [(0, .int .u32 (n / 256 ^ i.1 : Nat)), (3, .slice 1 0 0 i.1 none), (4, .int .i64 i.1)]) (fun i => [some ⟨(byL i.1 n).map bv, 5, false⟩]) (fun i => 4 - i.1) ⟨0, by simp⟩ retPost_le ?_ ?_
  · refine cut_trans (cut_ghost 3 1 5 (by simp) rfl rfl) (cut_w ?_)
    simp [byL]
  · rintro ⟨i, hi⟩
    simp only
    simp
    refine WC_dec (fun h => ?_) (fun h => ?_)
    · simp [hlb]
      refine ⟨by omega, ?_⟩
      have hq : (n : Int) / 256 ^ i = ((n / 256 ^ i : Nat) : Int) := by simp
      have hqn : n / 256 ^ (i + 1) = n / 256 ^ i / 256 := by rw [Nat.pow_succ, ← Nat.div_div_eq_div_mul]
      have hle : n / 256 ^ i ≤ n := Nat.div_le_self _ _
      have h1 : ((n / 256 ^ i : Nat) : Int).tdiv 256 = ((n / 256 ^ i / 256 : Nat) : Int) := rfl
      have h2 : ((n / 256 ^ i : Nat) : Int).tmod 256 = ((n / 256 ^ i % 256 : Nat) : Int) := rfl
      have h3 : IntKind.u8.wrap ((n / 256 ^ i % 256 : Nat) : Int) = ((UInt8.ofNat (n / 256 ^ i)).toNat : Int) := by
        rw [wrap8_u8, UInt8.toNat_ofNat', UInt8.toNat_ofNat']; simp
      rw [hq, h1, h2, h3]
      have h4 : IntKind.u32.wrap ((n / 256 ^ i % 256 : Nat) : Int) = ((n / 256 ^ i % 256 : Nat) : Int) := by rw [wrapu32, Nat.mod_eq_of_lt (by omega)]
      have h5 : IntKind.u32.wrap ((n / 256 ^ i / 256 : Nat) : Int) = ((n / 256 ^ i / 256 : Nat) : Int) := by rw [wrapu32, Nat.mod_eq_of_lt (by omega)]
      simp only [h3, h4, h5]
      refine ⟨⟨i + 1, by omega⟩, by simp; omega, ?_⟩
      refine cut_rw [1] (by simp) rfl ?_ ?_
      · have hqz : (n : Int) / 256 ^ (i + 1) = (n : Int) / 256 ^ i / 256 := by
          have h := congrArg (fun x : Nat => (x : Int)) hqn
          simpa using h
        simp [hqz, wrap64 (n := (i : Int) + 1) (by omega) (by omega)]
      · simp [byL_succ, List.take_of_length_le, hlb]
    · have : i = 4 := by omega
      subst this
      simp
      exact fin_sl 0 rfl (by simp [hlb]) (by simp) (by simp)
theorem byN_lt (l : List UInt8) : byN l < 256 ^ l.length := by
  induction l with
  | nil => simp [byN]
  | cons x l ih => have := x.toNat_lt; simp only [byN, List.length_cons, Nat.pow_succ]; omega
theorem numstep (x : UInt8) (r : List UInt8) (h : r.length ≤ 3) : IntKind.u32.wrap (IntKind.u32.wrap ((byN r : Nat) * 256) + (x.toNat : Nat)) = (byN (x :: r) : Nat) := by
  have hx := x.toNat_lt
  have h1 : byN r < 256 ^ 3 := Nat.lt_of_lt_of_le (byN_lt r) (Nat.pow_le_pow_right (by omega) h)
  rw [show ((byN r : Nat) : Int) * 256 = ((byN r * 256 : Nat) : Int) by simp, wrapu32, Nat.mod_eq_of_lt (by omega), ← Int.natCast_add, wrapu32, Nat.mod_eq_of_lt (by omega)]
  simp only [byN]; congr 1; omega
theorem fPRNumber_spec (a b c d : UInt8) (md : Md) : FSpec Try.prog 57 [.list 1 md ([a, b, c, d].map bv)] [] (.int .u32 (byN [a, b, c, d] : Nat)) [] := by
  have ha := a.toNat_lt; have hb := b.toNat_lt; have hc := c.toNat_lt; have hd := d.toNat_lt
  refine FSpec.of_W fPRNumber_low (by simp) ?_
  simp only [initEnv]
  simp
  refine W_loop (X := { i : Nat // i ≤ 4 }) (fun i => [(0, .list 1 md ([a, b, c, d].map bv)), (3, .int .u32 (byN ([a, b, c, d].drop i.1) : Nat)), (4, .int .i64 ((i.1 : Int) - 1))]) (fun i => []) (fun i => i.1) ⟨4, by simp⟩ retPost_le ?_ ?_
  · refine cut_w ?_
    simp [byN]
  · rintro ⟨i, hi⟩
    simp only
    simp
    obtain rfl | rfl | rfl | rfl | rfl : i = 0 ∨ i = 1 ∨ i = 2 ∨ i = 3 ∨ i = 4 := by omega
    · simp
      exact fin_W (by simp)
    · simp [wrap_b32, numstep a [b, c, d] (by simp)]
      refine ⟨⟨0, by simp⟩, by simp, cut_w ?_⟩
      simp
      rfl
    · simp [wrap_b32, numstep b [c, d] (by simp)]
      refine ⟨⟨1, by simp⟩, by simp, cut_w ?_⟩
      simp
      rfl
    · simp [wrap_b32, numstep c [d] (by simp)]
      refine ⟨⟨2, by simp⟩, by simp, cut_w ?_⟩
      simp
      rfl
    · simp [wrap_b32, numstep d [] (by simp)]
      refine ⟨⟨3, by simp⟩, by simp, cut_w ?_⟩
      simp
      rfl
theorem pkR_load (p : Pkt) (hp : p.Ok) : (pkR p).length = 100 ∧ (pkR p).take 100 = pkR p ∧ cleanL (pkR p) = true ∧ idsL (fun _ => false) (pkR p) = true ∧ ((pkR p).drop 36).take 64 = p.sig.map bv ∧ ((pkR p).drop 4).take 32 = p.hash.map bv := by
  have hh := hp.hash
  have hs := hp.sig
  have hl : (pkR p).length = 100 := by simp [pkR, hh, hs]
  have h32 : (p.hash.map bv).length = 32 := by simp [hh]
  refine ⟨hl, List.take_of_length_le (by omega), by simp [pkR], by simp [pkR], ?_, ?_⟩
  · simp [pkR, List.drop_append, h32, hs, List.take_of_length_le]
  · simp [pkR, List.take_append, h32, List.take_of_length_le]
theorem putB_len (b v : List UInt8) (t : UInt8) : (putB b t v).length = b.length + v.length + 2 := by simp [putB]; omega
theorem fPRSigned_spec (p : Pkt) (hp : p.Ok) : FSpec Try.prog 18 [.agg (pkR p)] [] (.list 1 ⟨false, false, false⟩ ((sgnB p).map bv)) [] := by
  have hh := hp.hash
  have hs := hp.sig
  obtain ⟨hl, ht, hc, hid, hd, hd4⟩ := pkR_load p hp
  have a0 : atF (pkR p) 0 = ok1 (.int .u32 (p.hw : Nat)) := rfl
  have a1 : atF (pkR p) 1 = ok1 (.int .u32 (p.ver : Nat)) := rfl
  have a2 : atF (pkR p) 2 = ok1 (.int .u32 (p.sz : Nat)) := rfl
  have a3 : atF (pkR p) 3 = ok1 (bv p.ty) := rfl
  have b1 : atF (pkR p).tail 0 = ok1 (.int .u32 (p.ver : Nat)) := rfl
  refine FSpec.of_W (c := .seq (.reg fPRSigned_r0) (.cut (.seq (.reg fPRSigned_r1) (.seq (.reg fPRSigned_r2) (.seq (.reg fPRSigned_r3) (.seq (.reg fPRSigned_r4) (.seq (.reg fPRSigned_r5) .ret))))))) fPRSigned_low (by simp) ?_
  simp only [initEnv]
  simp [hc]
  refine W_cut (cut_frz 0 rfl) ?_
  simp [hl, a0, a1, a2, a3, b1, hd4]
  refine WO_callP [] rfl rfl (fPRWord_spec p.hw hp.hw) (by simp) (by simp) ?_
  simp [hl, a0, a1, a2, a3, b1, hd4]
  refine WO_callP [] rfl rfl (fPPut_spec [] (byL 4 p.hw) 1 ⟨true, true, false⟩ _ (by simp) (by simp [byL_len])) (by simp) (by simp) ?_
  simp [hl, a0, a1, a2, a3, b1, hd4]
  refine WO_callP [] rfl rfl (fPPut_spec (putB [] 1 (byL 4 p.hw)) [p.ty] 2 _ ⟨false, true, false⟩ (by simp [putB_len, byL_len]) (by simp)) (by simp) (by simp) ?_
  simp [hl, a0, a1, a2, a3, b1, hd4]
  refine WO_callP [] rfl rfl (fPRWord_spec p.ver hp.ver) (by simp) (by simp) ?_
  simp [hl, a0, a1, a2, a3, b1, hd4]
  refine WO_callP [] rfl rfl (fPPut_spec _ (byL 4 p.ver) 3 _ _ (by simp [putB_len, byL_len]) (by simp [byL_len])) (by simp) (by simp) ?_
  simp [hl, a0, a1, a2, a3, b1, hd4]
  refine WO_callP [] rfl rfl (fPRWord_spec p.sz hp.sz) (by simp) (by simp) ?_
  simp [hl, a0, a1, a2, a3, b1, hd4]
  refine WO_callP [] rfl rfl (fPPut_spec _ (byL 4 p.sz) 4 _ _ (by simp [putB_len, byL_len]) (by simp [byL_len])) (by simp) (by simp) ?_
  simp [hl, a0, a1, a2, a3, b1, hd4]
  refine WO_callP [] rfl rfl (fPPut_spec _ p.hash 5 _ _ (by simp [putB_len, byL_len]) (by simp [hh])) (by simp) (by simp [hd4]) ?_
  simp
  exact fin_W (by simp [sgnB])
theorem sgnB_len (p : Pkt) (hp : p.Ok) : (sgnB p).length = 55 := by simp [sgnB, putB_len, byL_len, hp.hash]
theorem pkB_len (p : Pkt) (hp : p.Ok) : (pkB p).length = 121 := by simp [pkB, putB_len, sgnB_len p hp, hp.sig]
theorem fPREncode_spec (p : Pkt) (hp : p.Ok) : FSpec Try.prog 15 [.agg (pkR p)] [] (.list 1 ⟨false, false, false⟩ ((pkB p).map bv)) [] := by
  have hh := hp.hash
  have hs := hp.sig
  obtain ⟨hl, ht, hc, hid, hd, hd4⟩ := pkR_load p hp
  refine FSpec.of_W (c := .seq (.reg fPREncode_r0) (.cut (.seq (.draw fPREncode_r1) .ret))) fPREncode_low (by simp) ?_
  simp only [initEnv]
  simp [hc]
  refine W_cut (cut_frz 0 rfl) ?_
  simp [hl, ht, hd]
  refine WO_callP [] rfl rfl (fPRSigned_spec p hp) (by simp [hid]) (by simp [hl, hd]) ?_
  simp
  refine WO_callP [] rfl rfl (fPPut_spec (sgnB p) p.sig 6 _ _ (by simp [sgnB_len p hp]) (by simp [hs])) (by simp) (by simp [hd]) ?_
  simp
  exact fin_W (by simp [pkB])
theorem splice4 (a b c d : AV) (z h : List AV) (hz : z.length = 96) (hh : h.length = 96) : splice (a :: b :: c :: d :: z) 4 h = a :: b :: c :: d :: h := by
  rw [splice_take_drop _ _ _ (by simp [hz, hh])]; simp [hh, hz, List.drop_of_length_le]
theorem splice2 (a b c d : AV) (z h s : List AV) (hz : z.length = 96) (hh : h.length = 32) (hs : s.length = 64) : splice (splice (a :: b :: c :: d :: z) 4 h) 36 s = a :: b :: c :: d :: (h ++ s) := by
  have e1 : splice (a :: b :: c :: d :: z) 4 h = a :: b :: c :: d :: (h ++ z.drop 32) := by
    rw [splice_take_drop _ _ _ (by simp [hz, hh])]; simp [hh]
  rw [e1, splice_take_drop _ _ _ (by simp [hz, hh, hs])]
  simp [List.take_append, hh, hs, List.drop_of_length_le, hz, List.take_of_length_le]
theorem fPOf_spec (p : Pkt) (hp : p.Ok) : FSpec Try.prog 16 [.agg (pkP p)] [] (.agg (pkR p)) [] := by
  have hh := hp.hash
  have hs := hp.sig
  refine FSpec.of_W fPOf_low (by simp) ?_
  simp only [initEnv]
  simp [pkP, hh, hs, List.take_of_length_le, List.take_left', splice_length, splice2, splice4]
  refine fin_W ?_
  simp [pkR]
end Go.Proofs.Ythgibibeoapfbaa
