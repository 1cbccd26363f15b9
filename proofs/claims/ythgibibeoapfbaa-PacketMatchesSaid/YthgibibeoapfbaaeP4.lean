/-
  Packets: what bytes say.
-/
import Derived.Test.YthgibibeoapfbaaeP3
set_option linter.unusedSimpArgs false
set_option linter.unusedVariables false
set_option linter.unusedSectionVars false
namespace Go.Proofs.Ythgibibeoapfbaa
open Go Go.Fw
attribute [local simp] bv cleanL_bv toBytes_bv ltL_bv atF_drop WS_at_bytes W_nil W_skip W_seq W_reg W_draw W_drawP W_kill W_keep W_block W_blk W_exit W_ret WX_blk WX_c WX_lp WX_li W_li W_condT W_condF W_cond WC_true WC_false
  WR_nil WR_cons WR_o1 WR_o2 o1_chk o2_chk WR_grd WG_tt WG_ff WG_tf WG_ft WG_none WS_some WS_ok1 WSr_no WSr_some WSr_ok1 WSr_at_bytes WH_some WHA_some chkF_cons chkF_nil chkE_some chkE_ok1 chkE_at evF WO_mv WO_pick WO_bin WO_isNil WO_eqA WO_un WO_convI WO_toStr WO_ofStr WO_build WO_buildF WO_load WO_nilCheck WO_fieldAddr WO_field WO_idxA WO_idxS
  WO_ixA WO_slS WO_slA WO_len WO_lenK WO_appF WO_extract WO_s2a WO_iface WO_min WO_max WO_alloc WO_box WO_buildO WO_store WO_appO WO_copy WO_makeS WO_allocA WO_makeA WO_cvt cvtF_slice WO_look lookF_map alAF mkAF WO_func bind1_v bind2_v bindH_v bindH2_v bindS_v okO_v pickO_t pickO_f
  Env.keep Env.get Env.set Env.del Env.dels Env.setO Env.opd Env.opds Env.opdO Env.parts intF aggF fillA splice cleanL AV.clean bndF fldF_one fldF_many toStrF boxF buildOF
  loadF_rptr loadF_rptrN atF_zero atF_succ blk_cons_zero blk_cons_succ loadF_p loadF_pN atB_some atBN_some retPost resL one
  okc_bool cells_bool notStr_bool okc_int cells_int notStr_int okc_str cells_str notStr_str okc_nil cells_nil notStr_nil okc_ptr cells_ptr notStr_ptr okc_rptr cells_rptr notStr_rptr okc_slice cells_slice notStr_slice 
  okc_list cells_list notStr_list okc_func cells_func notStr_func okc_nilFunc cells_nilFunc notStr_nilFunc okc_iface cells_iface notStr_iface okc_nilIface cells_nilIface notStr_nilIface okc_agg cells_agg notStr_agg 
  okc_tuple cells_tuple notStr_tuple lenF_slice lenF_list lenF_str faF_ptr faF_rptr idxSF_slice idxSF_list idxAF_ptr idxAF_rptr ixAF_many ixAF_one convF_int unF_neg unF_xor unF_not nilF_0nil nilF_0ptr nilF_0rptr nilF_1 
  nilF_2nil nilF_2f nilF_3nil nilF_3f binF_int binF_beq binF_bne binF_sadd binF_seq binF_sne sliceCells_list sliceCells_str sliceCells_slice cutC_some szAV_list szAV_str szAV_slice oneSl_list oneSl_slice slSF_sliceS 
  slSF_sliceN slSF_list slAF_rptr slAF_ptr appFF_list appOF_list appOF_sliceN appOF_sliceS storeF_ptr copyF_slice extF_tuple s2aF_slice s2aF_list nchkF_ptr nchkF_rptr nchkF_f mmF_int ofStrF_str mkSF_int eqAF_agg
attribute [local irreducible] W WX WR WO WS WSr WH WHA WG WC FSpec
attribute [local simp] lendAll
attribute [local congr] W_cg WR_cg WO_cg WS_cg WSr_cg WH_cg WHA_cg WG_cg WC_cg WX_cg
attribute [local simp] Env.has AV.wkr wkrL AV.wkr_refl wkrL_refl AV.ltI ltL leHW hasW Env.lt AV.ids idsL AV.sub subL AV.ren AV.frz frzS frzP frzE frzL Heap.frz Blk.frz Blk.ren renL rnS rnP hasR leR idsL_bv subL_bv
attribute [local simp] cleanL_take cleanL_drop ltL_take ltL_drop idsL_take idsL_drop subL_take subL_drop cleanL_append ltL_append idsL_append subL_append
attribute [local simp] renE mvN mvH
attribute [local simp] fwd backH putL bwd
attribute [local simp] u8i u8e List.idxOf_cons
attribute [local simp] hasRW leRW
def rd (b : List UInt8) : Pkt := ⟨byN ((b.drop 2).take 4), byN ((b.drop 11).take 4), byN ((b.drop 17).take 4), b.getD 8 0, (b.drop 23).take 32, (b.drop 57).take 64⟩
def z0 : Pkt := ⟨0, 0, 0, 0, List.replicate 32 0, List.replicate 64 0⟩
def isPk (b : List UInt8) : Prop := b.length = 121 ∧ pkB (rd b) = b
instance (b : List UInt8) : Decidable (isPk b) := inferInstanceAs (Decidable (_ ∧ _))
def pErr (b : List UInt8) : Int := if 128 < b.length then 17 else if (tlvP b 0 []).2 ≠ 0 then (tlvP b 0 []).2 else 7
def parsePk (b : List UInt8) : Pkt × Int := if isPk b then (rd b, 0) else (z0, pErr b)
theorem byN_lt4 (l : List UInt8) (h : l.length = 4) : byN l < 2 ^ 32 := by have := byN_lt l; rw [h] at this; exact this
theorem rd_ok (b : List UInt8) (h : b.length = 121) : (rd b).Ok := by
  constructor
  · exact byN_lt4 _ (by simp [h])
  · exact byN_lt4 _ (by simp [h])
  · exact byN_lt4 _ (by simp [h])
  · simp [rd, h]
  · simp [rd, h]
theorem z0_ok : z0.Ok := by constructor <;> simp [z0]
theorem byN_byL4 (n : Nat) (h : n < 2 ^ 32) : byN (byL 4 n) = n := by rw [byN_byL]; exact Nat.mod_eq_of_lt h
theorem pkB_eq (p : Pkt) (hp : p.Ok) : ∃ w1 w2 w3, pkB p = 1 :: 4 :: (w1 ++ 2 :: 1 :: p.ty :: 3 :: 4 :: (w2 ++ 4 :: 4 :: (w3 ++ 5 :: 32 :: (p.hash ++ 6 :: 64 :: p.sig)))) ∧ w1 = byL 4 p.hw ∧ w2 = byL 4 p.ver ∧ w3 = byL 4 p.sz := by
  refine ⟨_, _, _, ?_, rfl, rfl, rfl⟩
  have hh := hp.hash
  have hs := hp.sig
  simp [pkB, sgnB, putB, byL_len, hh, hs]
theorem rd_pkB (p : Pkt) (hp : p.Ok) : rd (pkB p) = p := by
  have hh := hp.hash
  have hs := hp.sig
  obtain ⟨w1, w2, w3, e, h1, h2, h3⟩ := pkB_eq p hp
  have l1 : w1.length = 4 := by simp [h1, byL_len]
  have l2 : w2.length = 4 := by simp [h2, byL_len]
  have l3 : w3.length = 4 := by simp [h3, byL_len]
  have n1 : byN w1 = p.hw := by rw [h1, byN_byL4 _ hp.hw]
  have n2 : byN w2 = p.ver := by rw [h2, byN_byL4 _ hp.ver]
  have n3 : byN w3 = p.sz := by rw [h3, byN_byL4 _ hp.sz]
  rw [e]
  obtain ⟨hw, ver, sz, ty, hash, sig⟩ := p
  simp only at *
  match w1, l1, w2, l2, w3, l3 with
  | [_, _, _, _], _, [_, _, _, _], _, [_, _, _, _], _ =>
    simp [rd, n1, n2, n3, List.take_append, hh, hs, List.drop_append, List.take_of_length_le, List.drop_of_length_le]
theorem isPk_pkB (p : Pkt) (hp : p.Ok) : isPk (pkB p) := ⟨pkB_len p hp, by rw [rd_pkB p hp]⟩
theorem parse_pkB (p : Pkt) (hp : p.Ok) : parsePk (pkB p) = (p, 0) := by rw [parsePk, if_pos (isPk_pkB p hp), rd_pkB p hp]
theorem tlvP_put (t : UInt8) (v b : List UInt8) (last : UInt8) (out : List It2) (h1 : ¬ t ≤ last) (h2 : v.length ≤ 200) (h3 : out.length < 16) :
    tlvP (t :: UInt8.ofNat v.length :: (v ++ b)) last out = tlvP b t (out ++ [⟨t, v⟩]) := by
  have e : (UInt8.ofNat v.length).toNat = v.length := by rw [UInt8.toNat_ofNat']; omega
  rw [tlvP, if_neg h1, if_neg (by omega), if_neg (by simp; omega), e]
  simp
theorem tlvP_pkB (p : Pkt) (hp : p.Ok) : tlvP (pkB p) 0 [] = (pkItems p ++ [⟨6, p.sig⟩], 0) := by
  have hh := hp.hash
  have hs := hp.sig
  have e : pkB p = 1 :: UInt8.ofNat (byL 4 p.hw).length :: (byL 4 p.hw ++ 2 :: UInt8.ofNat [p.ty].length :: ([p.ty] ++ 3 :: UInt8.ofNat (byL 4 p.ver).length :: (byL 4 p.ver ++ 4 :: UInt8.ofNat (byL 4 p.sz).length :: (byL 4 p.sz ++ 5 :: UInt8.ofNat p.hash.length :: (p.hash ++ 6 :: UInt8.ofNat p.sig.length :: (p.sig ++ [])))))) := by
    simp [pkB, sgnB, putB]
  rw [e, tlvP_put _ _ _ _ _ (by decide) (by simp [byL_len]) (by simp), tlvP_put _ _ _ _ _ (by decide) (by simp) (by simp), tlvP_put _ _ _ _ _ (by decide) (by simp [byL_len]) (by simp), tlvP_put _ _ _ _ _ (by decide) (by simp [byL_len]) (by simp), tlvP_put _ _ _ _ _ (by decide) (by simp [hh]) (by simp), tlvP_put _ _ _ _ _ (by decide) (by simp [hs]) (by simp), tlvP]
  simp [pkItems]
theorem isPk_items (b : List UInt8) (h : isPk b) : tlvP b 0 [] = (pkItems (rd b) ++ [⟨6, (rd b).sig⟩], 0) := by
  have := tlvP_pkB (rd b) (rd_ok b h.1)
  rwa [h.2] at this
theorem tlvP_all (b : List UInt8) (last : UInt8) (out : List It2) : ∀ res, tlvP b last out = (res, 0) → out.length ≤ 16 →
    ∃ l, res = out ++ l ∧ res.length ≤ 16 ∧ (∀ i ∈ l, i.val.length ≤ 200 ∧ last < i.tag) ∧ l.Pairwise (fun a b => a.tag < b.tag) ∧ ∀ acc, tlvE l last out.length acc = (acc ++ b, 0) := by
  fun_induction tlvP b last out with
  | case1 last out => intro res h ho; cases h; exact ⟨[], by simp, ho, by simp, by simp, by simp [tlvE]⟩
  | case2 last out x => intro res h; cases h
  | case3 last out t n r h => intro res h; cases h
  | case4 last out t n r h h2 => intro res h; cases h
  | case5 last out t n r h h2 h3 => intro res h; cases h
  | case6 last out t n r h h2 h3 ih =>
    intro res hr ho
    obtain ⟨l, rfl, h4, h5, h6, h7⟩ := ih res hr (by simp; omega)
    have hm : min n.toNat r.length = n.toNat := by omega
    have hv : (r.take n.toNat).length = n.toNat := by simp [hm]
    refine ⟨⟨t, r.take n.toNat⟩ :: l, by simp, h4, fun i hi => ?_, ?_, fun acc => ?_⟩
    · rcases List.mem_cons.1 hi with rfl | hi
      · exact ⟨by rw [hv]; omega, UInt8.not_le.1 h⟩
      · exact ⟨(h5 i hi).1, UInt8.lt_trans (UInt8.not_le.1 h) (h5 i hi).2⟩
    · exact List.pairwise_cons.2 ⟨fun i hi => (h5 i hi).2, h6⟩
    · rw [tlvE]
      simp only [hv]
      rw [if_neg h, if_neg (by omega)]
      have := h7 (acc ++ [t, UInt8.ofNat n.toNat] ++ r.take n.toNat)
      rw [List.length_append] at this
      rw [show out.length + [(⟨t, r.take n.toNat⟩ : It2)].length = out.length + 1 from rfl] at this
      rw [this]
      simp
theorem items_pk (b : List UInt8) (x1 x2 x3 x4 x5 x6 : It2) (h : tlvP b 0 [] = ([x1, x2, x3, x4, x5, x6], 0)) (t1 : x1.tag = 1) (t2 : x2.tag = 2) (t3 : x3.tag = 3) (t4 : x4.tag = 4) (t5 : x5.tag = 5) (t6 : x6.tag = 6)
    (l1 : x1.val.length = 4) (l2 : x2.val.length = 1) (l3 : x3.val.length = 4) (l4 : x4.val.length = 4) (l5 : x5.val.length = 32) (l6 : x6.val.length = 64) :
    ∃ p : Pkt, p.Ok ∧ b = pkB p ∧ p = ⟨byN x1.val, byN x3.val, byN x4.val, x2.val.getD 0 0, x5.val, x6.val⟩ := by
  obtain ⟨l, e, -, -, -, he⟩ := tlvP_all b 0 [] _ h (by simp)
  simp at e
  have he := he []
  rw [← e] at he
  refine ⟨_, ⟨byN_lt4 _ l1, byN_lt4 _ l3, byN_lt4 _ l4, l5, l6⟩, ?_, rfl⟩
  have hp : Pkt.Ok ⟨byN x1.val, byN x3.val, byN x4.val, x2.val.getD 0 0, x5.val, x6.val⟩ := ⟨byN_lt4 _ l1, byN_lt4 _ l3, byN_lt4 _ l4, l5, l6⟩
  have h2 := tlvE_all _ hp
  have v2 : x2.val = [x2.val.getD 0 0] := by
    obtain ⟨a, ha⟩ := List.length_eq_one_iff.1 l2
    simp [ha]
  have e4 : ∀ v : List UInt8, v.length = 4 → byL 4 (byN v) = v := fun v hv => by have := byL_byN v; rwa [hv] at this
  have : (pkItems ⟨byN x1.val, byN x3.val, byN x4.val, x2.val.getD 0 0, x5.val, x6.val⟩ ++ [⟨6, x6.val⟩] : List It2) = [x1, x2, x3, x4, x5, x6] := by
    obtain ⟨a1, b1⟩ := x1; obtain ⟨a2, b2⟩ := x2; obtain ⟨a3, b3⟩ := x3; obtain ⟨a4, b4⟩ := x4; obtain ⟨a5, b5⟩ := x5; obtain ⟨a6, b6⟩ := x6
    simp only at *
    subst t1 t2 t3 t4 t5 t6
    simp only [pkItems, e4 _ l1, e4 _ l3, e4 _ l4, ← v2]
    rfl
  rw [this] at h2
  have := h2.symm.trans he
  simpa using (congrArg Prod.fst this).symm
end Go.Proofs.Ythgibibeoapfbaa
