/-
  Packets.
-/
import Derived.Test.YthgibibeoapfbaaeP1
set_option linter.unusedSimpArgs false
set_option linter.unusedVariables false
set_option linter.unusedSectionVars false
namespace Go.Proofs.Ythgibibeoapfbaa
open Go Go.Fw
attribute [local simp] bv cleanL_bv toBytes_bv ltL_bv atF_drop WS_at_bytes W_nil W_skip W_seq W_reg W_draw W_drawP W_kill W_keep W_block W_blk W_exit W_ret WX_blk WX_c WX_lp WX_li W_li W_condT W_condF W_cond WC_true WC_false
  WR_nil WR_cons WR_o1 WR_o2 o1_chk o2_chk WR_grd WG_tt WG_ff WG_tf WG_ft WG_none WS_some WS_ok1 WSr_no WSr_some WSr_ok1 WSr_at_bytes WH_some WHA_some chkF_cons chkF_nil chkE_some chkE_ok1 chkE_at evF WO_mv WO_pick WO_bin WO_isNil WO_eqA WO_un WO_convI WO_toStr WO_ofStr WO_build WO_buildF WO_load WO_nilCheck WO_fieldAddr WO_field WO_idxA WO_idxS
  WO_ixA WO_slS WO_slA WO_len WO_lenK WO_appF WO_extract WO_s2a WO_iface WO_min WO_max WO_alloc WO_box WO_buildO WO_store WO_appO WO_copy WO_makeS WO_allocA WO_makeA WO_cvt cvtF_slice WO_look lookF_map alAF mkAF WO_func bind1_v bind2_v bindH_v bindH2_v bindS_v okO_v pickO_t pickO_f
  Env.keep Env.get Env.set Env.del Env.dels Env.setO Env.opd Env.opds Env.opdO Env.parts intF aggF fillA splice cleanL AV.clean bndF fldF_one fldF_many toStrF boxF buildOF
  loadF_rptr loadF_rptrN atF_zero atF_succ blk_cons_zero blk_cons_succ loadF_p loadF_pN atB_some atBN_some retPost resL one
  okc_bool cells_bool notStr_bool okc_int cells_int notStr_int okc_str cells_str notStr_str okc_nil cells_nil notStr_nil okc_ptr cells_ptr notStr_ptr okc_rptr cells_rptr notStr_rptr okc_slice cells_slice notStr_slice 
  okc_list cells_list notStr_list okc_func cells_func notStr_func okc_nilFunc cells_nilFunc notStr_nilFunc okc_iface cells_iface notStr_iface okc_nilIface cells_nilIface notStr_nilIface okc_agg cells_agg notStr_agg 
  okc_tuple cells_tuple notStr_tuple lenF_slice lenF_list lenF_str faF_ptr faF_rptr idxSF_slice idxSF_list idxAF_ptr idxAF_rptr ixAF_many ixAF_one convF_int unF_neg unF_xor unF_not nilF_0nil nilF_0ptr nilF_0rptr nilF_1 
  nilF_2nil nilF_2f nilF_3nil nilF_3f binF_int binF_beq binF_bne binF_sadd binF_seq binF_sne sliceCells_list sliceCells_str sliceCells_slice cutC_some szAV_list szAV_str szAV_slice oneSl_list oneSl_slice slSF_sliceS 
  slSF_sliceN slSF_list slAF_rptr slAF_ptr appFF_list appOF_list appOF_sliceN appOF_sliceS storeF_ptr copyF_slice extF_tuple s2aF_slice s2aF_list nchkF_ptr nchkF_rptr nchkF_f mmF_int ofStrF_str mkSF_int eqAF_agg
attribute [local irreducible] W WX WR WO WS WSr WH WHA WG WC FSpec
attribute [local simp] lendAll
attribute [local congr] W_cg WR_cg WO_cg WS_cg WSr_cg WH_cg WHA_cg WG_cg WC_cg WX_cg
attribute [local simp] Env.has AV.wkr wkrL AV.wkr_refl wkrL_refl AV.ltI ltL leHW hasW Env.lt AV.ids idsL AV.sub subL AV.ren AV.frz frzS frzP frzE frzL Heap.frz Blk.frz Blk.ren renL rnS rnP hasR leR idsL_bv subL_bv
attribute [local simp] cleanL_take cleanL_drop ltL_take ltL_drop idsL_take idsL_drop subL_take subL_drop cleanL_append ltL_append idsL_append subL_append
attribute [local simp] renE mvN mvH
attribute [local simp] fwd backH putL bwd
attribute [local simp] u8i u8e List.idxOf_cons
attribute [local simp] hasRW leRW
attribute [local simp] WS_at_map WSr_at_map WS_at_arr WSr_at_arr loadWP splice_full Int.natCast_inj
structure Pkt where
  hw : Nat
  ver : Nat
  sz : Nat
  ty : UInt8
  hash : List UInt8
  sig : List UInt8
  deriving DecidableEq
structure Pkt.Ok (p : Pkt) : Prop where
  hw : p.hw < 2 ^ 32
  ver : p.ver < 2 ^ 32
  sz : p.sz < 2 ^ 32
  hash : p.hash.length = 32
  sig : p.sig.length = 64
/-- A packet's cells, as the program has them; as the document has them. -/
def pkP (p : Pkt) : List AV := .int .u32 (p.hw : Nat) :: bv p.ty :: .int .u32 (p.ver : Nat) :: .int .u32 (p.sz : Nat) :: (p.hash.map bv ++ p.sig.map bv)
def pkR (p : Pkt) : List AV := .int .u32 (p.hw : Nat) :: .int .u32 (p.ver : Nat) :: .int .u32 (p.sz : Nat) :: bv p.ty :: (p.hash.map bv ++ p.sig.map bv)
def pkItems (p : Pkt) : List It2 := [⟨1, byL 4 p.hw⟩, ⟨2, [p.ty]⟩, ⟨3, byL 4 p.ver⟩, ⟨4, byL 4 p.sz⟩, ⟨5, p.hash⟩]
def putB (b : List UInt8) (t : UInt8) (v : List UInt8) : List UInt8 := b ++ t :: UInt8.ofNat v.length :: v
def sgnB (p : Pkt) : List UInt8 := putB (putB (putB (putB (putB [] 1 (byL 4 p.hw)) 2 [p.ty]) 3 (byL 4 p.ver)) 4 (byL 4 p.sz)) 5 p.hash
def pkB (p : Pkt) : List UInt8 := putB (sgnB p) 6 p.sig
theorem byL4 (n : Nat) : byL 4 n = [UInt8.ofNat n, UInt8.ofNat (n / 256), UInt8.ofNat (n / 65536), UInt8.ofNat (n / 16777216)] := by
  simp [byL, List.range_succ]
theorem fPWord_spec (n : Nat) (hn : n < 2 ^ 32) : FSpec Try.prog 101 [.int .u32 (n : Nat)] [] (.list 1 ⟨false, false, false⟩ ((byL 4 n).map bv)) [] := by
  have e0 := wrap8_u8 n
  have e1 : IntKind.u8.wrap (((n : Nat) : Int).fdiv 256) = ((UInt8.ofNat (n / 256)).toNat : Int) := by
    have h := shr_nat n 8; rw [show ((2 : Int) ^ 8) = 256 from rfl, show (2 : Nat) ^ 8 = 256 from rfl] at h; rw [h, wrap8_u8]
  have e2 : IntKind.u8.wrap (((n : Nat) : Int).fdiv 65536) = ((UInt8.ofNat (n / 65536)).toNat : Int) := by
    have h := shr_nat n 16; rw [show ((2 : Int) ^ 16) = 65536 from rfl, show (2 : Nat) ^ 16 = 65536 from rfl] at h; rw [h, wrap8_u8]
  have e3 : IntKind.u8.wrap (((n : Nat) : Int).fdiv 16777216) = ((UInt8.ofNat (n / 16777216)).toNat : Int) := by
    have h := shr_nat n 24; rw [show ((2 : Int) ^ 24) = 16777216 from rfl, show (2 : Nat) ^ 24 = 16777216 from rfl] at h; rw [h, wrap8_u8]
  refine FSpec.of_W fPWord_low (by simp) ?_
  simp only [initEnv]
  simp [e0, e1, e2, e3, IntKind.bits]
  refine fin_W ?_
  simp [byL4]
theorem wrap_b32 (b : UInt8) : IntKind.u32.wrap (b.toNat : Nat) = (b.toNat : Nat) := by rw [wrapu32]; have := b.toNat_lt; congr 1; omega
theorem word4le (a b c d : UInt8) : bitI .or .u32 (bitI .or .u32 (bitI .or .u32 (a.toNat : Nat) (IntKind.u32.wrap ((b.toNat : Nat) * 256))) (IntKind.u32.wrap ((c.toNat : Nat) * 65536))) (IntKind.u32.wrap ((d.toNat : Nat) * 16777216)) = (byN [a, b, c, d] : Nat) := by
  have ha := a.toNat_lt; have hb := b.toNat_lt; have hc := c.toNat_lt; have hd := d.toNat_lt
  have e1 : ((b.toNat : Nat) : Int) * 256 = ((b.toNat * 256 : Nat) : Int) := by simp
  have e2 : ((c.toNat : Nat) : Int) * 65536 = ((c.toNat * 65536 : Nat) : Int) := by simp
  have e3 : ((d.toNat : Nat) : Int) * 16777216 = ((d.toNat * 16777216 : Nat) : Int) := by simp
  rw [e1, e2, e3, wrapu32, wrapu32, wrapu32, Nat.mod_eq_of_lt (by omega), Nat.mod_eq_of_lt (by omega), Nat.mod_eq_of_lt (by omega)]
  have o1 := or_shl a.toNat b.toNat 8 (by omega)
  have o2 := or_shl (a.toNat + b.toNat * 256) c.toNat 16 (by omega)
  have o3 := or_shl (a.toNat + b.toNat * 256 + c.toNat * 65536) d.toNat 24 (by omega)
  rw [show (2 : Nat) ^ 8 = 256 from rfl] at o1
  rw [show (2 : Nat) ^ 16 = 65536 from rfl] at o2
  rw [show (2 : Nat) ^ 24 = 16777216 from rfl] at o3
  rw [bitI_or rfl (show a.toNat < 2 ^ 32 by omega) (show b.toNat * 256 < 2 ^ 32 by omega), o1]
  rw [bitI_or rfl (show a.toNat + b.toNat * 256 < 2 ^ 32 by omega) (show c.toNat * 65536 < 2 ^ 32 by omega), o2]
  rw [bitI_or rfl (show a.toNat + b.toNat * 256 + c.toNat * 65536 < 2 ^ 32 by omega) (show d.toNat * 16777216 < 2 ^ 32 by omega), o3]
  simp only [byN]
  omega
theorem fPNumber_spec (a b c d : UInt8) (md : Md) : FSpec Try.prog 53 [.list 1 md ([a, b, c, d].map bv)] [] (.int .u32 (byN [a, b, c, d] : Nat)) [] := by
  have h := word4le a b c d
  obtain ⟨v, hv⟩ : ∃ v, v = byN [a, b, c, d] := ⟨_, rfl⟩
  rw [← hv] at h ⊢
  refine FSpec.of_W fPNumber_low (by simp) ?_
  simp only [initEnv]
  simp [wrap_b32, IntKind.bits, h]
  exact fin_W (by simp)
theorem fPPut_spec (b v : List UInt8) (t : UInt8) (m1 m2 : Md) (hb : b.length < 2 ^ 40) (hv : v.length < 256) : FSpec Try.prog 54 [.list 1 m1 (b.map bv), bv t, .list 1 m2 (v.map bv)] [] (.list 1 ⟨false, false, false⟩ ((putB b t v).map bv)) [] := by
  have e : IntKind.u8.wrap (v.length : Int) = ((UInt8.ofNat v.length).toNat : Int) := wrap8_u8 _
  refine FSpec.of_W fPPut_low (by simp) ?_
  simp only [initEnv]
  simp [List.take_of_length_le, e]
  refine ⟨by omega, by omega, by omega, by omega, ?_⟩
  exact fin_sl 3 rfl (by simp; omega) (by simp [putB]) (by simp)
theorem fPItems_spec (p : Pkt) (hp : p.Ok) : FSpec Try.prog 51 [.agg (pkP p)] [] (.list 2 ⟨false, true, false⟩ (cells2 (pkItems p))) [] := by
  have hh := hp.hash
  have hs := hp.sig
  refine FSpec.of_W fPItems_low (by simp) ?_
  simp only [initEnv]
  simp [pkP, hh, hs]
  refine WO_callP [] rfl rfl (fPWord_spec p.hw hp.hw) (by simp) (by simp [hh, hs, List.take_of_length_le]) ?_
  simp
  refine WO_callP [] rfl rfl (fPWord_spec p.ver hp.ver) (by simp) (by simp [hh, hs, List.take_of_length_le]) ?_
  simp
  refine WO_callP [] rfl rfl (fPWord_spec p.sz hp.sz) (by simp) (by simp [hh, hs, List.take_of_length_le]) ?_
  simp
  refine fin_F 0 rfl ?_
  refine fin_W ?_
  simp [pkItems, hh, hs, List.take_of_length_le, List.take_left']
theorem tlvE_items (p : Pkt) (hp : p.Ok) : tlvE (pkItems p) 0 0 [] = (sgnB p, 0) := by
  have hh := hp.hash
  simp [tlvE, pkItems, sgnB, putB, byL_len, hh]
theorem tlvE_all (p : Pkt) (hp : p.Ok) : tlvE (pkItems p ++ [⟨6, p.sig⟩]) 0 0 [] = (pkB p, 0) := by
  have hh := hp.hash
  have hs := hp.sig
  simp [tlvE, pkItems, pkB, sgnB, putB, byL_len, hh, hs]
theorem fPSigned_spec (p : Pkt) (hp : p.Ok) : FSpec Try.prog 17 [.agg (pkP p)] [] (.list 1 ⟨false, false, false⟩ ((sgnB p).map bv)) [] := by
  have hh := hp.hash
  have hs := hp.sig
  have hi := fPItems_spec p hp
  have he := fTEncode_spec (pkItems p) ⟨false, true, false⟩ (by simp [pkItems])
  rw [tlvE_items p hp] at he
  have hc : cleanL (pkP p) = true := by simp [pkP]
  have hl : (pkP p).length = 100 := by simp [pkP, hh, hs]
  have ht : (pkP p).take 100 = pkP p := List.take_of_length_le (by omega)
  have hid : idsL (fun _ => false) (pkP p) = true := by simp [pkP]
  refine FSpec.of_W fPSigned_low (by simp) ?_
  simp only [initEnv]
  simp [hc, hl, ht]
  refine WO_callP [] rfl rfl hi (by simp [hid]) (by simp) ?_
  simp
  refine WO_callP [] rfl rfl he (by simp [encR]) (by simp) ?_
  simp [encR]
  exact fin_W (by simp)
theorem fPEncode_spec (p : Pkt) (hp : p.Ok) : FSpec Try.prog 13 [.agg (pkP p)] [] (.list 1 ⟨false, false, false⟩ ((pkB p).map bv)) [] := by
  have hh := hp.hash
  have hs := hp.sig
  have hi := fPItems_spec p hp
  have he := fTEncode_spec (pkItems p ++ [⟨6, p.sig⟩]) ⟨false, false, true⟩ (by simp [pkItems])
  rw [tlvE_all p hp] at he
  have hc : cleanL (pkP p) = true := by simp [pkP]
  have hl : (pkP p).length = 100 := by simp [pkP, hh, hs]
  have ht : (pkP p).take 100 = pkP p := List.take_of_length_le (by omega)
  have hid : idsL (fun _ => false) (pkP p) = true := by simp [pkP]
  have hd : ((pkP p).drop 36).take 64 = p.sig.map bv := by
    have h32 : (p.hash.map bv).length = 32 := by simp [hh]
    simp [pkP, List.drop_append, h32, hs, List.take_of_length_le]
  refine FSpec.of_W (c := .seq (.reg fPEncode_r0) (.cut (.seq (.draw fPEncode_r1) (.seq (.reg fPEncode_r2) .ret)))) fPEncode_low (by simp) ?_
  simp only [initEnv]
  simp [hc]
  refine W_cut (cut_frz 0 rfl) ?_
  simp [hl, ht, hd]
  refine WO_callP [] rfl rfl hi (by simp [hid]) (by simp [hl, hd]) ?_
  have hpl : (pkItems p).length = 5 := rfl
  simp [hpl]
  refine WO_callP [1] (as' := [.list 2 ⟨false, false, true⟩ (cells2 (pkItems p) ++ [bv 6, .list 1 ⟨false, true, false⟩ (p.sig.map bv)])]) rfl (by simp [hpl, List.take_of_length_le]) (FSpec.wk (by simp [pkItems, cells2_append, cells2_cons]) he) (by simp [encR]) (by simp) ?_
  simp [encR]
  exact fin_W (by simp)
end Go.Proofs.Ythgibibeoapfbaa
