/-
  chapter 16
-/
import Derived.Test.YtlffcidcopibmaaK3
set_option linter.unusedSimpArgs false
set_option linter.unusedVariables false
set_option linter.unusedSectionVars false
namespace Go.Proofs.Ytlffcidcopibmaa
open Go Go.Fw
attribute [local simp] bv cleanL_bv toBytes_bv ltL_bv atF_drop WS_at_bytes W_nil W_skip W_seq W_reg W_draw W_drawP W_kill W_keep W_block W_blk W_exit W_ret WX_blk WX_c WX_lp WX_li W_li W_condT W_condF W_cond WC_true WC_false
  WR_nil WR_cons WR_o1 WR_o2 o1_chk o2_chk WR_grd WG_tt WG_ff WG_tf WG_ft WG_none WS_some WS_ok1 WSr_no WSr_some WSr_ok1 WSr_at_bytes WH_some WHA_some chkF_cons chkF_nil chkE_some chkE_ok1 chkE_at evF WO_mv WO_pick WO_bin WO_isNil WO_eqA WO_un WO_convI WO_toStr WO_ofStr WO_build WO_buildF WO_load WO_nilCheck WO_fieldAddr WO_field WO_idxA WO_idxS
  WO_ixA WO_slS WO_slA WO_len WO_lenK WO_appF WO_extract WO_s2a WO_iface WO_min WO_max WO_alloc WO_box WO_buildO WO_store WO_appO WO_copy WO_makeS WO_allocA WO_makeA WO_cvt cvtF_slice WO_look lookF_map alAF mkAF WO_func bind1_v bind2_v bindH_v bindH2_v bindS_v okO_v pickO_t pickO_f
  Env.keep Env.get Env.set Env.del Env.dels Env.setO Env.opd Env.opds Env.opdO Env.parts intF aggF fillA splice cleanL AV.clean bndF fldF_one fldF_many toStrF boxF buildOF
  loadF_rptr loadF_rptrN atF_zero atF_succ blk_cons_zero blk_cons_succ loadF_p loadF_pN atB_some atBN_some retPost resL one
  okc_bool cells_bool notStr_bool okc_int cells_int notStr_int okc_str cells_str notStr_str okc_nil cells_nil notStr_nil okc_ptr cells_ptr notStr_ptr okc_rptr cells_rptr notStr_rptr okc_slice cells_slice notStr_slice 
  okc_list cells_list notStr_list okc_func cells_func notStr_func okc_nilFunc cells_nilFunc notStr_nilFunc okc_iface cells_iface notStr_iface okc_nilIface cells_nilIface notStr_nilIface okc_agg cells_agg notStr_agg 
  okc_tuple cells_tuple notStr_tuple lenF_slice lenF_list lenF_str faF_ptr faF_rptr idxSF_slice idxSF_list idxAF_ptr idxAF_rptr ixAF_many ixAF_one convF_int unF_neg unF_xor unF_not nilF_0nil nilF_0ptr nilF_0rptr nilF_1 
  nilF_2nil nilF_2f nilF_3nil nilF_3f binF_int binF_beq binF_bne binF_sadd binF_seq binF_sne sliceCells_list sliceCells_str sliceCells_slice cutC_some szAV_list szAV_str szAV_slice oneSl_list oneSl_slice slSF_sliceS 
  slSF_sliceN slSF_list slAF_rptr slAF_ptr appFF_list appOF_list appOF_sliceN appOF_sliceS storeF_ptr copyF_slice extF_tuple s2aF_slice s2aF_list nchkF_ptr nchkF_rptr nchkF_f mmF_int ofStrF_str mkSF_int eqAF_agg
attribute [local irreducible] W WX WR WO WS WSr WH WHA WG WC FSpec
attribute [local simp] lendAll
attribute [local congr] W_cg WR_cg WO_cg WS_cg WSr_cg WH_cg WHA_cg WG_cg WC_cg WX_cg
attribute [local simp] Env.has AV.wkr wkrL AV.wkr_refl wkrL_refl AV.ltI ltL leHW hasW Env.lt AV.ids idsL AV.sub subL AV.ren AV.frz frzS frzP frzE frzL Heap.frz Blk.frz Blk.ren renL rnS rnP hasR leR idsL_bv subL_bv
attribute [local simp] cleanL_take cleanL_drop ltL_take ltL_drop idsL_take idsL_drop subL_take subL_drop cleanL_append ltL_append idsL_append subL_append
attribute [local simp] renE mvN mvH
attribute [local simp] fwd backH putL bwd
attribute [local simp] u8i u8e List.idxOf_cons
attribute [local simp] hasRW leRW
def formsL : List (Int × CV) := [(0, .ints [(.i64, 0), (.i64, 0)]), (1, .ints [(.i64, 1), (.i64, 4)]), (2, .ints [(.i64, 0), (.i64, 2)]), (3, .ints [(.i64, 0), (.i64, 0)]), (4, .ints [(.i64, 0), (.i64, 0)]), (6, .ints [(.i64, 1), (.i64, 0)]), (7, .ints [(.i64, 0), (.i64, 0)]), (9, .ints [(.i64, 1), (.i64, 0)]), (12, .ints [(.i64, 0), (.i64, 0)])]
theorem fForms_map : bldFn Try.prog 41 .u8 = some formsL := by kernel_rfl
theorem fForms_spec (H : Heap) : FSpec Try.prog 41 [] H (.map .u8 formsL) H := FSpec.of_map fForms_map H
/-- What is known of a number of an operation: has it a type, so many bytes of size; is it one. -/
def fT (o : UInt8) : Nat := if o = 1 ∨ o = 6 ∨ o = 9 then 1 else 0
def fS (o : UInt8) : Nat := if o = 1 then 4 else if o = 2 then 2 else 0
def fOk (o : UInt8) : Bool := o = 0 ∨ o = 1 ∨ o = 2 ∨ o = 3 ∨ o = 4 ∨ o = 6 ∨ o = 7 ∨ o = 9 ∨ o = 12
def frmV (o : UInt8) : AV := .agg [.int .i64 (fT o), .int .i64 (fS o)]
theorem look_forms (o : UInt8) : lookV true (.agg [.int .i64 0, .int .i64 0]) formsL o.toNat = .tuple [frmV o, .bool (fOk o)] := by
  simp only [lookV, formsL, lookC, frmV, fT, fS, fOk]
  by_cases e0 : o = 0
  · subst e0; simp [CV.av]
  by_cases e1 : o = 1
  · subst e1; simp [CV.av]
  by_cases e2 : o = 2
  · subst e2; simp [CV.av]
  by_cases e3 : o = 3
  · subst e3; simp [CV.av]
  by_cases e4 : o = 4
  · subst e4; simp [CV.av]
  by_cases e6 : o = 6
  · subst e6; simp [CV.av]
  by_cases e7 : o = 7
  · subst e7; simp [CV.av]
  by_cases e9 : o = 9
  · subst e9; simp [CV.av]
  by_cases e12 : o = 12
  · subst e12; simp [CV.av]
  have n0 : ¬ ((o.toNat : Int) = 0) := by rw [u8i o 0 (by omega)]; exact e0
  have n1 : ¬ ((o.toNat : Int) = 1) := by rw [u8i o 1 (by omega)]; exact e1
  have n2 : ¬ ((o.toNat : Int) = 2) := by rw [u8i o 2 (by omega)]; exact e2
  have n3 : ¬ ((o.toNat : Int) = 3) := by rw [u8i o 3 (by omega)]; exact e3
  have n4 : ¬ ((o.toNat : Int) = 4) := by rw [u8i o 4 (by omega)]; exact e4
  have n6 : ¬ ((o.toNat : Int) = 6) := by rw [u8i o 6 (by omega)]; exact e6
  have n7 : ¬ ((o.toNat : Int) = 7) := by rw [u8i o 7 (by omega)]; exact e7
  have n9 : ¬ ((o.toNat : Int) = 9) := by rw [u8i o 9 (by omega)]; exact e9
  have n12 : ¬ ((o.toNat : Int) = 12) := by rw [u8i o 12 (by omega)]; exact e12
  have n00 : ¬ o.toNat = 0 := by omega
  simp [n00, e0, e1, e2, e3, e4, e6, e7, e9, e12, n0, n1, n2, n3, n4, n6, n7, n9, n12]
theorem look_forms0 (o : UInt8) : lookV false (.agg [.int .i64 0, .int .i64 0]) formsL o.toNat = frmV o := by
  have h := look_forms o
  unfold lookV at h ⊢
  split at h <;> simp at h <;> simp [h.1]
structure Req16 where
  op : UInt8
  ty : UInt8
  size : Nat
  data : List UInt8
  deriving DecidableEq
def reqV (r : Req16) : List AV := [bv r.op, bv r.ty, .int .u32 r.size, .list 1 ⟨false, false, false⟩ (r.data.map bv)]
def z16 : Req16 := ⟨0, 0, 0, []⟩
def leN : List UInt8 → Nat
  | [] => 0
  | x :: l => x.toNat + 256 * leN l
/-- What bytes are as a request; the error. -/
def parQ : List UInt8 → Req16 × Int
  | [] => (z16, 18)
  | o :: r => if o = 8 then (if 64 < r.length then (z16, 17) else if r.length = 0 then (z16, 18) else (⟨o, 0, 0, r⟩, 0))
    else if fOk o = false then (z16, 19) else if r.length < fT o + fS o then (z16, 18) else if fT o + fS o < r.length then (z16, 17)
    else (⟨o, if 0 < fT o then r.headD 0 else 0, leN (r.drop (fT o)), []⟩, 0)
def parR (x : Req16 × Int) : AV := .tuple [.agg (reqV x.1), .int .i64 x.2]
theorem leN_lt : ∀ (l : List UInt8), leN l < 256 ^ l.length
  | [] => by simp [leN]
  | x :: l => by
    have := leN_lt l
    have := x.toNat_lt
    simp only [leN, List.length_cons, Nat.pow_succ]
    omega
theorem leN_take : ∀ (l : List UInt8) (i : Nat) (h : i < l.length), leN (l.take (i + 1)) = leN (l.take i) + l[i].toNat * 256 ^ i
  | x :: l, 0, h => by simp [leN]
  | x :: l, i + 1, h => by
    have ih := leN_take l i (by simpa using h)
    simp only [List.take_succ_cons, leN, ih, List.getElem_cons_succ, Nat.pow_succ]
    generalize leN (List.take i l) = a
    generalize 256 ^ i = b
    rw [Nat.mul_add, Nat.add_assoc]
    congr 2
    rw [Nat.mul_comm 256, Nat.mul_assoc]
theorem wrap32n {n : Nat} (h : n < 2 ^ 32) : IntKind.u32.wrap (n : Int) = n := by
  unfold IntKind.wrap
  simp [IntKind.signed, IntKind.bits]
  omega
theorem bitI_or32 (a b : Nat) (ha : a < 2 ^ 32) (hb : b < 2 ^ 32) : bitI .or .u32 a b = (a ||| b : Nat) := by
  have h1 : BitVec.ofInt 32 (a : Int) = BitVec.ofNat 32 a := by simp
  have h2 : BitVec.ofInt 32 (b : Int) = BitVec.ofNat 32 b := by simp
  have h3 : a ||| b < 2 ^ 32 := Nat.or_lt_two_pow ha hb
  show IntKind.u32.wrap (((BitVec.ofInt 32 (a : Int) ||| BitVec.ofInt 32 (b : Int)).toNat : Nat) : Int) = _
  rw [h1, h2, BitVec.toNat_or, BitVec.toNat_ofNat, BitVec.toNat_ofNat, Nat.mod_eq_of_lt ha, Nat.mod_eq_of_lt hb]
  exact wrap32n h3
theorem or_le (i a c : Nat) (ha : a < 256 ^ i) (hi : i < 4) (hc : c < 256) : bitI .or .u32 a (IntKind.u32.wrap ((c : Int) * 2 ^ (8 * i))) = (a + c * 256 ^ i : Nat) := by
  have hp : (256 : Nat) ^ i = 2 ^ (8 * i) := by rw [show (256 : Nat) = 2 ^ 8 from rfl, ← Nat.pow_mul]
  have hle : (256 : Nat) ^ i ≤ 256 ^ 3 := Nat.pow_le_pow_right (by omega) (by omega)
  have hm : c * 256 ^ i ≤ 255 * 256 ^ i := Nat.mul_le_mul_right _ (by omega)
  have hm2 : (255 : Nat) * 256 ^ i ≤ 255 * 256 ^ 3 := Nat.mul_le_mul_left _ hle
  have hlt : c * 256 ^ i < 2 ^ 32 := by omega
  have hw : IntKind.u32.wrap ((c : Int) * 2 ^ (8 * i)) = (c * 256 ^ i : Nat) := by
    rw [show ((c : Int) * 2 ^ (8 * i)) = ((c * 256 ^ i : Nat) : Int) by rw [hp]; simp]
    exact wrap32n hlt
  rw [hw, bitI_or32 _ _ (by omega) hlt]
  congr 1
  rw [hp] at ha ⊢
  rw [Nat.mul_comm c, Nat.or_comm, ← Nat.two_pow_add_eq_or_of_lt ha, Nat.add_comm]
end Go.Proofs.Ytlffcidcopibmaa
