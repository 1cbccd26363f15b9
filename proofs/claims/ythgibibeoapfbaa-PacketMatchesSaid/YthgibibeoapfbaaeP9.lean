/-
  Packets: images that match.
-/
import Derived.Test.YthgibibeoapfbaaeP8
set_option linter.unusedSimpArgs false
set_option linter.unusedVariables false
set_option linter.unusedSectionVars false
namespace Go.Proofs.Ythgibibeoapfbaa
open Go Go.Fw
attribute [local simp] bv cleanL_bv toBytes_bv ltL_bv atF_drop WS_at_bytes W_nil W_skip W_seq W_reg W_draw W_drawP W_kill W_keep W_block W_blk W_exit W_ret WX_blk WX_c WX_lp WX_li W_li W_condT W_condF W_cond WC_true WC_false
  WR_nil WR_cons WR_o1 WR_o2 o1_chk o2_chk WR_grd WG_tt WG_ff WG_tf WG_ft WG_none WS_some WS_ok1 WSr_no WSr_some WSr_ok1 WSr_at_bytes WH_some WHA_some chkF_cons chkF_nil chkE_some chkE_ok1 chkE_at evF WO_mv WO_pick WO_bin WO_isNil WO_eqA WO_un WO_convI WO_toStr WO_ofStr WO_build WO_buildF WO_load WO_nilCheck WO_fieldAddr WO_field WO_idxA WO_idxS
  WO_ixA WO_slS WO_slA WO_len WO_lenK WO_appF WO_extract WO_s2a WO_iface WO_min WO_max WO_alloc WO_box WO_buildO WO_store WO_appO WO_copy WO_makeS WO_allocA WO_makeA WO_cvt cvtF_slice WO_look lookF_map alAF mkAF WO_func bind1_v bind2_v bindH_v bindH2_v bindS_v okO_v pickO_t pickO_f
  Env.keep Env.get Env.set Env.del Env.dels Env.setO Env.opd Env.opds Env.opdO Env.parts intF aggF fillA splice cleanL AV.clean bndF fldF_one fldF_many toStrF boxF buildOF
  loadF_rptr loadF_rptrN atF_zero atF_succ blk_cons_zero blk_cons_succ loadF_p loadF_pN atB_some atBN_some retPost resL one
  okc_bool cells_bool notStr_bool okc_int cells_int notStr_int okc_str cells_str notStr_str okc_nil cells_nil notStr_nil okc_ptr cells_ptr notStr_ptr okc_rptr cells_rptr notStr_rptr okc_slice cells_slice notStr_slice 
  okc_list cells_list notStr_list okc_func cells_func notStr_func okc_nilFunc cells_nilFunc notStr_nilFunc okc_iface cells_iface notStr_iface okc_nilIface cells_nilIface notStr_nilIface okc_agg cells_agg notStr_agg 
  okc_tuple cells_tuple notStr_tuple lenF_slice lenF_list lenF_str faF_ptr faF_rptr idxSF_slice idxSF_list idxAF_ptr idxAF_rptr ixAF_many ixAF_one convF_int unF_neg unF_xor unF_not nilF_0nil nilF_0ptr nilF_0rptr nilF_1 
  nilF_2nil nilF_2f nilF_3nil nilF_3f binF_int binF_beq binF_bne binF_sadd binF_seq binF_sne sliceCells_list sliceCells_str sliceCells_slice cutC_some szAV_list szAV_str szAV_slice oneSl_list oneSl_slice slSF_sliceS 
  slSF_sliceN slSF_list slAF_rptr slAF_ptr appFF_list appOF_list appOF_sliceN appOF_sliceS storeF_ptr copyF_slice extF_tuple s2aF_slice s2aF_list nchkF_ptr nchkF_rptr nchkF_f mmF_int ofStrF_str mkSF_int eqAF_agg
attribute [local irreducible] W WX WR WO WS WSr WH WHA WG WC FSpec
attribute [local simp] lendAll
attribute [local congr] W_cg WR_cg WO_cg WS_cg WSr_cg WH_cg WHA_cg WG_cg WC_cg WX_cg
attribute [local simp] Env.has AV.wkr wkrL AV.wkr_refl wkrL_refl AV.ltI ltL leHW hasW Env.lt AV.ids idsL AV.sub subL AV.ren AV.frz frzS frzP frzE frzL Heap.frz Blk.frz Blk.ren renL rnS rnP hasR leR idsL_bv subL_bv
attribute [local simp] cleanL_take cleanL_drop ltL_take ltL_drop idsL_take idsL_drop subL_take subL_drop cleanL_append ltL_append idsL_append subL_append
attribute [local simp] renE mvN mvH
attribute [local simp] fwd backH putL bwd
attribute [local simp] u8i u8e List.idxOf_cons
attribute [local simp] hasRW leRW
attribute [local simp] WS_at_map WSr_at_map WS_at_arr WSr_at_arr loadWP splice_full Int.natCast_inj ltL_pkP ltL_pkR
@[simp] theorem sub_pkP (s : Nat → Nat → Nat → Nat → Option Nat → AV) (f : Nat → Nat → AV) (p : Pkt) : subL s f (pkP p) = pkP p := by simp [pkP, subL, AV.sub, subL_append, subL_bv]
def mEnv (a b : List UInt8) (m1 m2 : Md) : Env := [(1, .list 1 m1 (a.map bv)), (2, .list 1 m2 (b.map bv)), (3, .ptr 0 0), (7, .list 1 ⟨false, false, false⟩ (a.map bv ++ b.map bv))]
@[reducible] def pmK2 : KCode := .kill [37] (.seq (.reg fPMatches_r7) (.cut (.seq (.draw fPMatches_r8) (.reg fPMatches_r9))))
/-- Cells of a packet of a size, with a digest. -/
def zc (n : Nat) (D : List AV) : List AV := .int .u32 0 :: .int .u32 0 :: .int .u32 (n : Nat) :: .int .u8 0 :: (D ++ List.replicate 64 (.int .u8 0))
theorem zc_len (n : Nat) {D : List AV} (h : D.length = 32) : (zc n D).length = 100 := by simp [zc, h]
theorem zc_set (n : Nat) {D E : List AV} (h : D.length = 32) (h2 : E.length = 32) : splice (zc n D) 4 E = zc n E := by
  rw [splice_take_drop _ _ _ (by rw [zc_len n h, h2]; omega), h2]
  simp [zc, h, List.drop_append]
theorem zc_get (n : Nat) {D : List AV} (h : D.length = 32) : ((zc n D).drop 4).take 32 = D := by
  simp [zc, h, List.take_append]
theorem pk_set (p : Pkt) (hp : p.Ok) {D : List UInt8} (h : D.length = 32) : splice (pkP p) 4 (D.map bv) = pkP { p with hash := D } := by
  have h2 := hp.hash
  rw [splice_take_drop _ _ _ (by rw [(pkP_load p hp).1]; simp [h]), List.length_map, h]
  simp [pkP, h2, List.drop_append]
theorem match_rest (p : Pkt) (hp : p.Ok) (a b : List UInt8) (m1 m2 : Md) (hs : a.length + b.length < 2 ^ 40) (G : Heap) : W Try.prog 0 [It.c (.seq (.reg fPMatches_r10) (.seq (.reg fPMatches_r11) .ret))] (mEnv a b m1 m2) (some ⟨pkP p, 28, true⟩ :: G) (retPost fPMatches_rs (fin 0 (.bool true) [])) := by
  simp only [mEnv]
  simp [pkP_load p hp]
  have e2 : allB [(m1, a), (m2, b)] = a ++ b := by simp [allB]
  have e1 : allB [((⟨false, false, false⟩ : Md), a ++ b)] = a ++ b := by simp [allB]
  have h1 := fPMatch_spec p hp [(m1, a), (m2, b)] ⟨false, true, false⟩ (by rw [e2]; simp; omega) (by simp)
  have h2 := fPMatch_spec p hp [(⟨false, false, false⟩, a ++ b)] ⟨false, true, false⟩ (by rw [e1]; simp; omega) (by simp)
  have h3 := fPRMatch_spec p hp (a ++ b) ⟨false, false, false⟩ (by simp; omega)
  rw [e2] at h1
  rw [e1] at h2
  simp only [List.map_cons, List.map_nil, lsV, List.map_append] at h1 h2 h3
  refine WO_callP [] rfl rfl h1 (by simp [pkP_load p hp, idsL, AV.ids]) (by simp) ?_
  simp [pkP_load p hp]
  refine WO_callP [] rfl rfl (fPOf_spec p hp) (by simp [pkP_load p hp, pkR_load p hp]) (by simp [pkP_load p hp]) ?_
  simp [pkR_load p hp]
  refine WO_callP [] rfl rfl h3 (by simp [pkR_load p hp, idsL, AV.ids]) (by simp [pkP_load p hp]) ?_
  simp [pkP_load p hp]
  refine WO_callP [] rfl rfl h2 (by simp [pkP_load p hp, idsL, AV.ids]) (by simp [pkP_load p hp]) ?_
  simp
  exact fin_W (by simp)
theorem fPMatches_spec (p : Pkt) (hp : p.Ok) (a b : List UInt8) (m1 m2 : Md) (ha : a.length < 2 ^ 47) (hb : b.length < 2 ^ 47) : FSpec Try.prog 5 [.agg (pkP p), .list 1 m1 (a.map bv), .list 1 m2 (b.map bv)] [] (.bool true) [] := by
  refine FSpec.of_W (c := (.seq (.reg fPMatches_r0) (.seq (.seq (.reg fPMatches_r1) (.cond (.t 19) fPMatches_k0 (.kill [19] .skip))) (.keep [1, 2, 3] (.seq (.reg fPMatches_r3) (.cut (.seq (.seq (.reg fPMatches_r4) (.cond (.t 29) fPMatches_k1 (.kill [29] .skip))) (.keep [1, 2, 3, 7] (.cut (.seq (.seq (.reg fPMatches_r6) (.cond (.t 37) pmK2 (.kill [37] .skip))) (.keep [1, 2, 3, 7] (.cut (.seq (.reg fPMatches_r10) (.seq (.reg fPMatches_r11) .ret)))))))))))))) fPMatches_low (by simp) ?_
  simp only [initEnv]
  simp [pkP_load p hp]
  refine WO_callP [] rfl rfl fPLives_spec (by simp [pkP_load p hp]) (by simp) ?_
  simp
  rw [wrap64 (n := (a.length : Int) + b.length) (by omega) (by omega)]
  refine WC_dec (fun h => ?_) (fun h => ?_)
  · simp
    refine WO_callP [] rfl rfl fPLives_spec (by simp) (by simp) ?_
    simp
    exact fin_W (by simp)
  have av : ∀ q : Pkt, atF (pkP q) 2 = ok1 (.int .u32 (q.ver : Nat)) := fun q => rfl
  have as' : ∀ q : Pkt, atF (pkP q) 3 = ok1 (.int .u32 (q.sz : Nat)) := fun q => rfl
  have aS : ∀ q : Pkt, ∀ n : Nat, (pkP q).set 3 (.int .u32 (n : Nat)) = pkP { q with sz := n } := fun q n => rfl
  simp [List.take_of_length_le, av]
  refine ⟨by omega, by omega, ?_⟩
  refine W_cut (cut_trans (cut_frz 2 rfl) (cut_w (e0 := mEnv a b m1 m2) (H0 := [some ⟨pkP p, 28, true⟩, none, none]) (by simp [mEnv, List.take_of_length_le]))) ?_
  -- the second test and what follows, of a packet
  have hrest : ∀ q : Pkt, q.Ok → W Try.prog 0 [It.c (.seq (.seq (.reg fPMatches_r6) (.cond (.t 37) pmK2 (.kill [37] .skip))) (.keep [1, 2, 3, 7] (.cut (.seq (.reg fPMatches_r10) (.seq (.reg fPMatches_r11) .ret)))))] (mEnv a b m1 m2) [some ⟨pkP q, 28, true⟩, none, none] (retPost fPMatches_rs (fin 0 (.bool true) [])) := by
    intro q hq
    simp only [mEnv]
    simp [av]
    refine WC_dec (fun h4 => ?_) (fun h4 => ?_)
    · simp [as']
      refine W_cut (cut_w (e0 := [(1, .list 1 m1 (a.map bv)), (2, .list 1 m2 (b.map bv)), (3, .ptr 0 0), (7, .list 1 ⟨false, false, false⟩ (a.map bv ++ b.map bv)), (8, .ptr 3 0)]) (H0 := [some ⟨pkP q, 28, true⟩, none, none, some ⟨zc q.sz (List.replicate 32 (.int .u8 0)), 37, true⟩]) ?_) ?_
      · simp [zc]
      have hh := fPHash_spec (a ++ b) ⟨false, false, false⟩ (by simp; omega)
      have hdl : (dgst F32 (a ++ b)).length = 32 := by simp
      obtain ⟨D, hD⟩ : ∃ D, D = dgst F32 (a ++ b) := ⟨_, rfl⟩
      rw [← hD] at hh hdl
      simp only [List.map_append] at hh
      have z1 := zc_len q.sz (D := List.replicate 32 (.int .u8 0)) (by simp)
      have z2 := zc_set q.sz (D := List.replicate 32 (.int .u8 0)) (E := D.map bv) (by simp) (by simp [hdl])
      have z3 := zc_get q.sz (D := D.map bv) (by simp [hdl])
      have z4 := zc_len q.sz (D := D.map bv) (by simp [hdl])
      have z5 := pk_set q hq hdl
      have z6 : (D.map bv).take 32 = D.map bv := List.take_of_length_le (by simp [hdl])
      generalize zc q.sz (List.replicate 32 (.int .u8 0)) = Z at *
      simp [z1]
      refine WO_callP [] rfl rfl hh (by simp) (by simp [z1]) ?_
      simp [hdl, z1, z2, z3, z4, z5, z6, (pkP_load q hq).1]
      exact W_cut (cut_w (by simp [mEnv])) (match_rest { q with hash := D } ⟨hq.hw, hq.ver, hq.sz, hdl, hq.sig⟩ a b m1 m2 (by omega) [])
    · simp
      exact W_cut (cut_w (by simp [mEnv])) (match_rest q hq a b m1 m2 (by omega) [])
  simp only [mEnv]
  simp [av]
  refine WC_dec (fun h4 => ?_) (fun h4 => ?_)
  · have e1 : IntKind.u32.wrap ((a.length : Int) + b.length) = ((a.length + b.length : Nat) : Int) := by
      rw [← Int.natCast_add, wrapu32]; congr 1; omega
    have aS2 : (pkP p).set 3 (.int .u32 ((a.length : Int) + (b.length : Int))) = pkP { p with sz := a.length + b.length } := by rw [← Int.natCast_add]; rfl
    rw [Int.natCast_add] at e1
    simp [e1, aS2]
    refine ⟨by rw [(pkP_load p hp).1]; omega, ?_⟩
    exact W_cut (cut_w (by simp [mEnv])) (hrest { p with sz := a.length + b.length } ⟨hp.hw, hp.ver, by simp only; omega, hp.hash, hp.sig⟩)
  · simp
    exact W_cut (cut_w (by simp [mEnv])) (hrest p hp)
set_option maxRecDepth 100000 in
theorem fPacketMatches_law : ∀ args, AllFit Try.prog 8 Try.f5.params.toList args → FSpec Try.prog 5 args [] (.bool true) [] := by
  intro args has
  rw [show Try.f5.params.toList = [28, 30, 30] from by rw [Try.params5]] at has
  obtain ⟨a, as1, rfl, h1, has⟩ := all_cons has
  obtain ⟨b, as2, rfl, h2, has⟩ := all_cons has
  obtain ⟨c, as3, rfl, h3, has⟩ := all_cons has
  cases all_nil has
  obtain ⟨p, hp, rfl⟩ := arg_pkt h1
  obtain ⟨nl, full, x, rfl, hx⟩ := arg_bytes Try.underlying30 Try.underlying5 (by kernel_rfl) (by kernel_rfl) h2
  obtain ⟨nl2, full2, y, rfl, hy⟩ := arg_bytes Try.underlying30 Try.underlying5 (by kernel_rfl) (by kernel_rfl) h3
  exact fPMatches_spec p hp x y _ _ hx hy
end Go.Proofs.Ythgibibeoapfbaa
