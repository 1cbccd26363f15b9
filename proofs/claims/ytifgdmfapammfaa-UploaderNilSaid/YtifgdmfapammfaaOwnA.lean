/-
  Codes, contracts and laws, part 1.
-/
import Derived.Test.YtifgdmfapammfaaLibA
import Derived.Test.YtifgdmfapammfaaRows
set_option linter.unusedSimpArgs false
set_option linter.unnecessarySimpa false
set_option linter.unusedVariables false
set_option linter.unusedSectionVars false
namespace Go.Fw
attribute [simp] bv cleanL_bv toBytes_bv ltL_bv atF_drop WS_at_bytes W_nil W_skip W_seq W_reg W_draw W_drawP W_kill W_keep W_block W_blk W_exit W_ret WX_blk WX_c WX_lp WX_li W_li W_condT W_condF W_cond WC_true WC_false
  WR_nil WR_cons WR_o1 WR_o2 o1_chk o2_chk WR_grd WG_tt WG_ff WG_tf WG_ft WG_none WS_some WS_ok1 WSr_no WSr_some WSr_ok1 WSr_at_bytes WH_some WHA_some chkF_cons chkF_nil chkE_some chkE_ok1 chkE_at evF WO_mv WO_pick WO_bin WO_isNil WO_eqA WO_un WO_convI WO_toStr WO_ofStr WO_build WO_buildF WO_load WO_nilCheck WO_fieldAddr WO_field WO_idxA WO_idxS
  WO_ixA WO_slS WO_slA WO_len WO_lenK WO_appF WO_extract WO_s2a WO_iface WO_min WO_max WO_alloc WO_box WO_buildO WO_store WO_appO WO_copy WO_makeS WO_allocA WO_makeA WO_cvt cvtF_slice WO_look lookF_map alAF mkAF WO_func bind1_v bind2_v bindH_v bindH2_v bindS_v okO_v pickO_t pickO_f
  Env.keep Env.get Env.set Env.del Env.dels Env.setO Env.opd Env.opds Env.opdO Env.parts intF aggF fillA splice cleanL AV.clean bndF fldF_one fldF_many toStrF boxF buildOF
  loadF_rptr loadF_rptrN atF_zero atF_succ blk_cons_zero blk_cons_succ loadF_p loadF_pN atB_some atBN_some retPost resL one
  okc_bool cells_bool notStr_bool okc_int cells_int notStr_int okc_str cells_str notStr_str okc_nil cells_nil notStr_nil okc_ptr cells_ptr notStr_ptr okc_rptr cells_rptr notStr_rptr okc_slice cells_slice notStr_slice 
  okc_list cells_list notStr_list okc_func cells_func notStr_func okc_nilFunc cells_nilFunc notStr_nilFunc okc_iface cells_iface notStr_iface okc_nilIface cells_nilIface notStr_nilIface okc_agg cells_agg notStr_agg 
  okc_tuple cells_tuple notStr_tuple lenF_slice lenF_list lenF_str faF_ptr faF_rptr idxSF_slice idxSF_list idxAF_ptr idxAF_rptr ixAF_many ixAF_one convF_int unF_neg unF_xor unF_not nilF_0nil nilF_0ptr nilF_0rptr nilF_1 
  nilF_2nil nilF_2f nilF_3nil nilF_3f binF_int binF_beq binF_bne binF_sadd binF_seq binF_sne sliceCells_list sliceCells_str sliceCells_slice cutC_some szAV_list szAV_str szAV_slice oneSl_list oneSl_slice slSF_sliceS 
  slSF_sliceN slSF_list slAF_rptr slAF_ptr appFF_list appOF_list appOF_sliceN appOF_sliceS storeF_ptr copyF_slice extF_tuple s2aF_slice s2aF_list nchkF_ptr nchkF_rptr nchkF_f mmF_int ofStrF_str mkSF_int eqAF_agg
attribute [simp] lendAll
attribute [congr] W_cg WR_cg WO_cg WS_cg WSr_cg WH_cg WHA_cg WG_cg WC_cg WX_cg
attribute [simp] Env.has AV.wkr wkrL AV.wkr_refl wkrL_refl AV.ltI ltL leHW hasW Env.lt AV.ids idsL AV.sub subL AV.ren AV.frz frzS frzP frzE frzL Heap.frz Blk.frz Blk.ren renL rnS rnP hasR leR idsL_bv subL_bv
attribute [simp] cleanL_take cleanL_drop ltL_take ltL_drop idsL_take idsL_drop subL_take subL_drop cleanL_append ltL_append idsL_append subL_append
attribute [simp] renE mvN mvH
attribute [simp] fwd backH putL bwd
attribute [simp] u8i u8e List.idxOf_cons
attribute [simp] hasRW leRW
end Go.Fw
namespace Go.Proofs.Ytifgdmfapammfaa
open Go.Fw
set_option maxRecDepth 100000
set_option maxHeartbeats 4000000
@[reducible] def fCloneB : KCode := by
  refine (?f : lowF Try.progTables Try.f22 [(3, 2)] [] = ?c → annF true [] [] ?c = ?k → KCode) ?h ?i
  case h => cbv; exact rfl
  case i => cbv; exact rfl
  exact fun _ _ => ?k
theorem fCloneB_low : lowFunc Try.prog 22 [(3, 2)] [] = some ⟨fCloneB.bare, [.tmp 2], 8⟩ := by kernel_rfl
@[reducible] def fDsNew : KCode := by
  refine (?f : lowF Try.progTables Try.f21 [] [] = ?c → annF false [] [] ?c = ?k → KCode) ?h ?i
  case h => cbv; exact rfl
  case i => cbv; exact rfl
  exact fun _ _ => ?k
theorem fDsNew_low : lowFunc Try.prog 21 [] [] = some ⟨fDsNew.bare, [.tmp 2, .tmp 3], 14⟩ := by kernel_rfl
end Go.Proofs.Ytifgdmfapammfaa
namespace Go.Proofs.Ytifgdmfapammfaa
open Go Go.Fw
attribute [local irreducible] W WX WR WO WS WSr WH WHA WG WC FSpec
attribute [local simp] WS_at_map WSr_at_map loadWP splice_full Int.natCast_inj
theorem fCloneB_spec (b : List UInt8) (md : Md) (hb : b.length < 2 ^ 47) : FSpec Try.prog 22 [.list 1 md (b.map bv)] [] (.list 1 ⟨false, false, false⟩ (b.map bv)) [] := by
  by_cases h0 : md.nl = true ∧ b ≠ []
  · exact FSpec.not_nil (i := 0) rfl h0.1 (by simpa using h0.2)
  refine FSpec.of_W fCloneB_low (by simp) ?_
  simp only [initEnv]
  simp
  refine W_regN rfl rfl (fun c hc => ?_)
  simp at hc
  simp
  refine WC_b (fun h => ?_) (fun h => ?_)
  · have : b = [] := by
      rcases b with _ | ⟨x, b⟩
      · rfl
      · subst h; simp at hc h0; exact absurd hc.symm (by simp [h0])
    subst this
    simp
    exact fin_W (by simp)
  · simp
    refine ⟨by omega, ?_⟩
    exact fin_W (by simp)
end Go.Proofs.Ytifgdmfapammfaa
namespace Go.Proofs.Ytifgdmfapammfaa
open Go Go.Fw
attribute [local irreducible] W WX WR WO WS WSr WH WHA WG WC FSpec
def dH (text : List UInt8) (most : Int) (esc skips : Bool) : Heap := [some ⟨[.slice 1 1 0 text.length none, .int .i64 most, .bool esc, .bool skips], 115, true⟩, some ⟨text.map bv, 5, false⟩]
end Go.Proofs.Ytifgdmfapammfaa
namespace Go.Proofs.Ytifgdmfapammfaa
open Go Go.Fw
attribute [local irreducible] W WX WR WO WS WSr WH WHA WG WC FSpec
structure Ev where
  kind : Int
  frame : List UInt8
  err : Int
  deriving DecidableEq
def evs1 (x : Ev) : List AV := [.int .i64 x.kind, .list 1 ⟨false, false, false⟩ (x.frame.map bv), .int .i64 x.err]
def evs (l : List Ev) : List AV := l.flatMap evs1
@[simp] theorem evs_nil : evs [] = [] := rfl
@[simp] theorem evs_cons (x : Ev) (l : List Ev) : evs (x :: l) = evs1 x ++ evs l := by simp [evs]
@[simp] theorem evs1_length (x : Ev) : (evs1 x).length = 3 := rfl
@[simp] theorem evs_length (l : List Ev) : (evs l).length = l.length * 3 := by
  induction l with
  | nil => rfl
  | cons i l ih => simp [ih]; omega
@[simp] theorem evs_drop (l : List Ev) (i : Nat) : (evs l).drop (i * 3) = evs (l.drop i) := by
  induction l generalizing i with
  | nil => simp
  | cons x l ih =>
    cases i with
    | zero => simp
    | succ i => rw [evs_cons, List.drop_succ_cons, ← ih i, show (i + 1) * 3 = (evs1 x).length + i * 3 by rw [evs1_length]; omega, List.drop_length_add_append]
@[simp] theorem evs_take (l : List Ev) (i : Nat) : (evs l).take (i * 3) = evs (l.take i) := by
  induction l generalizing i with
  | nil => simp
  | cons x l ih =>
    cases i with
    | zero => simp
    | succ i => rw [evs_cons, List.take_succ_cons, evs_cons, ← ih i, show (i + 1) * 3 = (evs1 x).length + i * 3 by rw [evs1_length]; omega, List.take_length_add_append]
@[simp] theorem ltL_evs (n : Nat) (l : List Ev) : ltL n (evs l) = true := ltL_flatMap _ fun x => by simp [evs1, ltL, AV.ltI]
@[simp] theorem ids_evs (q : Nat → Bool) (l : List Ev) : idsL q (evs l) = true := idsL_flatMap _ fun x => by simp [evs1, idsL, AV.ids, idsL_bv]
@[simp] theorem sub_evs (s : Nat → Nat → Nat → Nat → Option Nat → AV) (p : Nat → Nat → AV) (l : List Ev) : subL s p (evs l) = evs l := subL_flatMap _ fun x => by simp [evs1, subL, AV.sub, subL_bv]
@[simp] theorem cleanL_evs (l : List Ev) : cleanL (evs l) = true := cleanL_flatMap _ fun x => by simp [evs1]
theorem fDsNew_spec (most : Int) (h1 : ¬ most < 1) (h2 : ¬ 65536 < most) : FSpec Try.prog 21 [.int .i64 most] [] (.tuple [.ptr 0 0, .int .i64 0]) (dH [] most false false) := by
  refine FSpec.of_W fDsNew_low (by simp) ?_
  simp only [initEnv]
  simp [h1, h2]
  refine fin_ghostB 0 0 1 5 (by simp) rfl rfl rfl (fin_W ?_)
  simp [dH]
end Go.Proofs.Ytifgdmfapammfaa
namespace Go.Proofs.Ytifgdmfapammfaa
open Go Go.Fw
attribute [local irreducible] W WX WR WO WS WSr WH WHA WG WC FSpec
def bls (l : List (List UInt8)) : List AV := l.map fun b => .list 1 ⟨false, false, false⟩ (b.map bv)
@[simp] theorem bls_nil : bls [] = [] := rfl
@[simp] theorem bls_cons (x : List UInt8) (l : List (List UInt8)) : bls (x :: l) = .list 1 ⟨false, false, false⟩ (x.map bv) :: bls l := rfl
@[simp] theorem bls_length (l : List (List UInt8)) : (bls l).length = l.length := by simp [bls]
@[simp] theorem bls_drop (l : List (List UInt8)) (i : Nat) : (bls l).drop i = bls (l.drop i) := by simp [bls, List.map_drop]
@[simp] theorem ltL_bls (n : Nat) (l : List (List UInt8)) : ltL n (bls l) = true := ltL_map _ fun x => by simp
@[simp] theorem ids_bls (q : Nat → Bool) (l : List (List UInt8)) : idsL q (bls l) = true := idsL_map _ fun x => by simp
@[simp] theorem sub_bls (s : Nat → Nat → Nat → Nat → Option Nat → AV) (p : Nat → Nat → AV) (l : List (List UInt8)) : subL s p (bls l) = bls l := subL_map _ fun x => by simp
@[simp] theorem cleanL_bls (l : List (List UInt8)) : cleanL (bls l) = true := cleanL_map _ fun x => by simp
def zer (n : Nat) : List Ev := List.replicate n ⟨0, [], 0⟩
@[simp] theorem zer_length (n : Nat) : (zer n).length = n := by simp [zer]
end Go.Proofs.Ytifgdmfapammfaa
namespace Go.Proofs.Ytifgdmfapammfaa
open Go Go.Fw
attribute [local irreducible] W WX WR WO WS WSr WH WHA WG WC FSpec
end Go.Proofs.Ytifgdmfapammfaa
namespace Go.Proofs.Ytifgdmfapammfaa
open Go Go.Fw
attribute [local irreducible] W WX WR WO WS WSr WH WHA WG WC FSpec
def escF (c : UInt8) : List UInt8 := if c = 192 then [219, 220] else if c = 219 then [219, 221] else [c]
def encE (b : List UInt8) : List UInt8 := b.flatMap escF
theorem escF_len (c : UInt8) : (escF c).length ≤ 2 := by unfold escF; split <;> (try split) <;> simp
theorem encE_len (b : List UInt8) : (encE b).length ≤ 2 * b.length := by
  induction b with
  | nil => simp [encE]
  | cons c b ih => have := escF_len c; simp [encE] at ih ⊢; omega
end Go.Proofs.Ytifgdmfapammfaa
namespace Go.Proofs.Ytifgdmfapammfaa
open Go.Fw
set_option maxRecDepth 100000
set_option maxHeartbeats 4000000
@[reducible] def fOpPar_r0 : List (DOper × List Nat) := [
  o1 2 (.alloc 46 [(.int .u8 0), (.int .u8 0), (.int .u32 0), (.list 1 ⟨true, true, false⟩ [])]) [],
  o1 3 (.mv (.k (.int .i64 0))) [3]]
@[reducible] def fOpPar_r1 : List (DOper × List Nat) := [
  o1 10 (.mv (.t 0)) [],
  o1 11 (.len true (.t 10)) [10],
  o1 12 (.bin false .eql (.t 11) (.k (.int .i64 0))) [11]]
@[reducible] def fOpPar_r2 : List (DOper × List Nat) := [
  o1 13 (.build [(.int .u8 0), (.int .u8 0), (.int .u32 0), (.list 1 ⟨true, true, false⟩ [])] []) [],
  (⟨⟨none, none, .store 4 (.t 2) (.t 13)⟩, 0, []⟩, [13]),
  o1 3 (.mv (.k (.int .i64 18))) []]
@[reducible] def fOpPar_k0 : KCode := (.keep [2] (.seq (.reg fOpPar_r2) .ret))
@[reducible] def fOpPar_r3 : List (DOper × List Nat) := [
  o1 14 (.mv (.t 0)) [],
  o1 15 (.idxS 1 (.t 14) (.k (.int .i64 0))) [14],
  o1 16 (.load none (.t 15)) [15],
  o1 17 (.build [(.int .u8 0), (.int .u8 0), (.int .u32 0), (.list 1 ⟨true, true, false⟩ [])] [(0, 1, (.t 16))]) [16],
  o1 4 (.alloc 46 [(.int .u8 0), (.int .u8 0), (.int .u32 0), (.list 1 ⟨true, true, false⟩ [])]) [],
  (⟨⟨none, none, .store 4 (.t 4) (.t 17)⟩, 0, []⟩, [17])]
@[reducible] def fOpPar_r4 : List (DOper × List Nat) := [
  o1 19 (.callP 67 []) [],
  o2 20 1 (.fieldAddr 0 (.t 4)) [],
  o2 21 2 (.load none (.t 20)) [20],
  o2 22 3 (.look true (.agg [(.int .i64 0), (.int .i64 0)]) (.t 19) (.t 21)) [19, 21],
  o2 18 4 (.mv (.t 22)) [22],
  o2 23 5 (.extract 0 (.t 18)) [],
  o2 24 6 (.extract 1 (.t 18)) [18],
  (⟨⟨(some 5), none, .alloc 136 [(.int .i64 0), (.int .i64 0)]⟩, 7, [2]⟩, []),
  (⟨⟨none, none, .store 2 (.t 5) (.t 23)⟩, 8, []⟩, [23]),
  o2 6 9 (.mv (.t 24)) [24]]
@[reducible] def fOpPar_r5 : List (DOper × List Nat) := [
  o1 25 (.fieldAddr 0 (.t 5)) [],
  o1 26 (.load none (.t 25)) [25],
  o1 27 (.bin false .add (.k (.int .i64 1)) (.t 26)) [26],
  o1 28 (.fieldAddr 1 (.t 5)) [],
  o1 29 (.load none (.t 28)) [28],
  o1 30 (.bin false .add (.t 27) (.t 29)) [27, 29],
  o1 7 (.mv (.t 30)) [30]]
@[reducible] def fOpPar_r6 : List (DOper × List Nat) := [
  o1 32 (.fieldAddr 0 (.t 4)) [],
  o1 33 (.load none (.t 32)) [32],
  o1 34 (.bin false .eql (.t 33) (.k (.int .u8 8))) [33],
  o1 35 (.mv (.t 34)) [34],
  (⟨⟨(some 36), (some (35, true)), .mv (.t 0)⟩, 0, []⟩, []),
  (⟨⟨(some 37), (some (35, true)), .len true (.t 36)⟩, 0, []⟩, [36]),
  (⟨⟨(some 38), (some (35, true)), .bin false .gtr (.t 37) (.k (.int .i64 65))⟩, 0, []⟩, [37]),
  o1 39 (.pick (.t 35) (.t 38) (.k (.bool false))) [35, 38],
  o1 31 (.mv (.t 39)) [39]]
@[reducible] def fOpPar_r7 : List (DOper × List Nat) := [
  o1 40 (.build [(.int .u8 0), (.int .u8 0), (.int .u32 0), (.list 1 ⟨true, true, false⟩ [])] []) [],
  (⟨⟨none, none, .store 4 (.t 2) (.t 40)⟩, 0, []⟩, [40]),
  o1 3 (.mv (.k (.int .i64 17))) []]
@[reducible] def fOpPar_r8 : List (DOper × List Nat) := [
  o1 42 (.fieldAddr 0 (.t 4)) [],
  o1 43 (.load none (.t 42)) [42],
  o1 44 (.bin false .eql (.t 43) (.k (.int .u8 8))) [43],
  o1 45 (.mv (.t 44)) [44],
  (⟨⟨(some 46), (some (45, true)), .mv (.t 0)⟩, 0, []⟩, []),
  (⟨⟨(some 47), (some (45, true)), .len true (.t 46)⟩, 0, []⟩, [46]),
  (⟨⟨(some 48), (some (45, true)), .bin false .gtr (.t 47) (.k (.int .i64 1))⟩, 0, []⟩, [47]),
  o1 49 (.pick (.t 45) (.t 48) (.k (.bool false))) [45, 48],
  o1 41 (.mv (.t 49)) [49]]
@[reducible] def fOpPar_r9 : List (DOper × List Nat) := [
  o1 50 (.mv (.t 0)) [0],
  o1 51 (.slS 1 (.t 50) (some (.k (.int .i64 1))) none none) [50],
  o1 52 (.call 22 [(.t 51)]) [51],
  o1 53 (.fieldAddr 3 (.t 4)) [],
  (⟨⟨none, none, .store 1 (.t 53) (.t 52)⟩, 0, []⟩, [52, 53])]
@[reducible] def fOpPar_r10 : List (DOper × List Nat) := [
  o1 54 (.load (some 4) (.t 4)) [4],
  (⟨⟨none, none, .store 4 (.t 2) (.t 54)⟩, 0, []⟩, [54]),
  o1 3 (.mv (.k (.int .i64 0))) []]
@[reducible] def fOpPar_r11 : List (DOper × List Nat) := [
  o1 56 (.fieldAddr 0 (.t 4)) [],
  o1 57 (.load none (.t 56)) [56],
  o1 58 (.bin false .neq (.t 57) (.k (.int .u8 8))) [57],
  o1 59 (.mv (.t 58)) [58],
  (⟨⟨(some 60), (some (59, true)), .mv (.t 6)⟩, 0, []⟩, [6]),
  (⟨⟨(some 61), (some (59, true)), .un .not (.t 60)⟩, 0, []⟩, [60]),
  o1 62 (.pick (.t 59) (.t 61) (.k (.bool false))) [59, 61],
  o1 55 (.mv (.t 62)) [62]]
@[reducible] def fOpPar_r12 : List (DOper × List Nat) := [
  o1 63 (.build [(.int .u8 0), (.int .u8 0), (.int .u32 0), (.list 1 ⟨true, true, false⟩ [])] []) [],
  (⟨⟨none, none, .store 4 (.t 2) (.t 63)⟩, 0, []⟩, [63]),
  o1 3 (.mv (.k (.int .i64 19))) []]
@[reducible] def fOpPar_r13 : List (DOper × List Nat) := [
  o1 65 (.fieldAddr 0 (.t 4)) [],
  o1 66 (.load none (.t 65)) [65],
  o1 67 (.bin false .eql (.t 66) (.k (.int .u8 8))) [66],
  o1 68 (.mv (.t 67)) [67],
  (⟨⟨(some 69), (some (68, false)), .mv (.t 0)⟩, 0, []⟩, []),
  (⟨⟨(some 70), (some (68, false)), .len true (.t 69)⟩, 0, []⟩, [69]),
  (⟨⟨(some 71), (some (68, false)), .mv (.t 7)⟩, 0, []⟩, []),
  (⟨⟨(some 72), (some (68, false)), .bin false .lss (.t 70) (.t 71)⟩, 0, []⟩, [70, 71]),
  o1 73 (.pick (.t 68) (.k (.bool true)) (.t 72)) [68, 72],
  o1 64 (.mv (.t 73)) [73]]
@[reducible] def fOpPar_r14 : List (DOper × List Nat) := [
  o1 74 (.build [(.int .u8 0), (.int .u8 0), (.int .u32 0), (.list 1 ⟨true, true, false⟩ [])] []) [],
  (⟨⟨none, none, .store 4 (.t 2) (.t 74)⟩, 0, []⟩, [74]),
  o1 3 (.mv (.k (.int .i64 18))) []]
@[reducible] def fOpPar_r15 : List (DOper × List Nat) := [
  o1 76 (.mv (.t 0)) [],
  o1 77 (.len true (.t 76)) [76],
  o1 78 (.mv (.t 7)) [7],
  o1 79 (.bin false .gtr (.t 77) (.t 78)) [77, 78],
  o1 75 (.mv (.t 79)) [79]]
@[reducible] def fOpPar_r16 : List (DOper × List Nat) := [
  o1 80 (.build [(.int .u8 0), (.int .u8 0), (.int .u32 0), (.list 1 ⟨true, true, false⟩ [])] []) [],
  (⟨⟨none, none, .store 4 (.t 2) (.t 80)⟩, 0, []⟩, [80]),
  o1 3 (.mv (.k (.int .i64 17))) []]
@[reducible] def fOpPar_k1 : KCode := (.keep [2] (.seq (.reg fOpPar_r16) .ret))
@[reducible] def fOpPar_k2 : KCode := (.keep [2] (.seq (.reg fOpPar_r14) .ret))
@[reducible] def fOpPar_k3 : KCode := (.kill [64] (.seq (.reg fOpPar_r15) (.cond (.t 75) fOpPar_k1 (.kill [75] .skip))))
@[reducible] def fOpPar_k4 : KCode := (.keep [2] (.seq (.reg fOpPar_r12) .ret))
@[reducible] def fOpPar_k5 : KCode := (.kill [55] (.seq (.reg fOpPar_r13) (.cond (.t 64) fOpPar_k2 fOpPar_k3)))
@[reducible] def fOpPar_k6 : KCode := (.keep [0, 2, 4] (.seq (.reg fOpPar_r9) (.seq (.reg fOpPar_r10) .ret)))
@[reducible] def fOpPar_k7 : KCode := (.kill [41] (.seq (.reg fOpPar_r11) (.cond (.t 55) fOpPar_k4 fOpPar_k5)))
@[reducible] def fOpPar_k8 : KCode := (.keep [2] (.seq (.reg fOpPar_r7) .ret))
@[reducible] def fOpPar_k9 : KCode := (.kill [31] (.seq (.reg fOpPar_r8) (.cond (.t 41) fOpPar_k6 fOpPar_k7)))
@[reducible] def fOpPar_r17 : List (DOper × List Nat) := [
  o1 81 (.fieldAddr 0 (.t 5)) [],
  o1 82 (.load none (.t 81)) [81],
  o1 83 (.bin false .gtr (.t 82) (.k (.int .i64 0))) [82]]
@[reducible] def fOpPar_r18 : List (DOper × List Nat) := [
  o1 84 (.mv (.t 0)) [],
  o1 85 (.idxS 1 (.t 84) (.k (.int .i64 1))) [84],
  o1 86 (.load none (.t 85)) [85],
  o1 87 (.fieldAddr 1 (.t 4)) [],
  (⟨⟨none, none, .store 1 (.t 87) (.t 86)⟩, 0, []⟩, [86, 87])]
@[reducible] def fOpPar_k10 : KCode := (.kill [83] (.reg fOpPar_r18))
@[reducible] def fOpPar_r19 : List (DOper × List Nat) := [
  o1 88 (.mv (.t 0)) [0],
  o1 89 (.fieldAddr 0 (.t 5)) [5],
  o1 90 (.load none (.t 89)) [89],
  o1 91 (.bin false .add (.k (.int .i64 1)) (.t 90)) [90],
  o1 92 (.slS 1 (.t 88) (some (.t 91)) none none) [88, 91],
  o1 93 (.len true (.t 92)) [],
  o1 94 (.mv (.k (.int .i64 0))) []]
@[reducible] def fOpPar_r20 : List (DOper × List Nat) := [
  o1 95 (.bin false .lss (.t 94) (.t 93)) []]
@[reducible] def fOpPar_k11 : KCode := (.keep [2, 4] (.exit 1))
@[reducible] def fOpPar_r21 : List (DOper × List Nat) := [
  o1 96 (.mv (.t 94)) [],
  o1 97 (.idxS 1 (.t 92) (.t 94)) [],
  o1 98 (.load none (.t 97)) [97],
  o1 8 (.mv (.t 96)) [96],
  o1 9 (.mv (.t 98)) [98]]
@[reducible] def fOpPar_r22 : List (DOper × List Nat) := [
  o1 99 (.fieldAddr 2 (.t 4)) [],
  o2 100 1 (.load none (.t 99)) [99],
  o2 101 2 (.mv (.t 9)) [9],
  o2 102 3 (.convI .u32 (.t 101)) [101],
  o2 103 4 (.mv (.t 8)) [8],
  o2 104 5 (.bin false .mul (.k (.int .i64 8)) (.t 103)) [103],
  o2 105 6 (.bin false .shl (.t 102) (.t 104)) [102, 104],
  o2 106 7 (.bin false .or (.t 100) (.t 105)) [100, 105],
  o2 107 8 (.fieldAddr 2 (.t 4)) [],
  (⟨⟨none, none, .store 1 (.t 107) (.t 106)⟩, 9, []⟩, [106, 107])]
@[reducible] def fOpPar_r23 : List (DOper × List Nat) := [
  o1 108 (.bin false .add (.t 94) (.k (.int .i64 1))) [94],
  o1 94 (.mv (.t 108)) [108]]
@[reducible] def fOpPar_l12 : KCode := (.seq (.reg fOpPar_r20) (.seq (.cond (.t 95) (.kill [95] .skip) fOpPar_k11) (.kill [95] (.seq (.block 2 (.seq (.reg fOpPar_r21) (.draw fOpPar_r22))) (.keep [2, 4, 92, 93, 94] (.reg fOpPar_r23))))))
@[reducible] def fOpPar_r24 : List (DOper × List Nat) := [
  o1 109 (.load (some 4) (.t 4)) [4],
  (⟨⟨none, none, .store 4 (.t 2) (.t 109)⟩, 0, []⟩, [109]),
  o1 3 (.mv (.k (.int .i64 0))) []]
@[reducible] def fOpPar : KCode := (.seq (.reg fOpPar_r0) (.seq (.seq (.reg fOpPar_r1) (.cond (.t 12) fOpPar_k0 (.kill [12] .skip))) (.keep [0, 2] (.seq (.reg fOpPar_r3) (.seq (.draw fOpPar_r4) (.seq (.reg fOpPar_r5) (.seq (.block 0 (.seq (.reg fOpPar_r6) (.cond (.t 31) fOpPar_k8 fOpPar_k9))) (.keep [0, 2, 4, 5] (.seq (.seq (.reg fOpPar_r17) (.cond (.t 83) fOpPar_k10 (.kill [83] .skip))) (.keep [0, 2, 4, 5] (.seq (.seq (.reg fOpPar_r19) (.block 1 (.loop fOpPar_l12))) (.keep [2, 4] (.seq (.reg fOpPar_r24) .ret)))))))))))))
@[reducible] def fOpPar_rs : List IRes := [.cell 2 (some 4), .tmp 3]
theorem fOpPar_low : lowFunc Try.prog 68 [(4, 0)] [] = some ⟨fOpPar.bare, fOpPar_rs, 110⟩ := by kernel_rfl
@[reducible] def fOpEnc_r0 : List (DOper × List Nat) := [
  o1 1 (.box 46 (.t 0)) [0],
  o1 2 (.mv (.k (.list 1 ⟨true, true, false⟩ []))) [2],
  o1 3 (.mv (.k (.int .i64 0))) [3]]
@[reducible] def fOpEnc_r1 : List (DOper × List Nat) := [
  o1 9 (.fieldAddr 0 (.t 1)) [],
  o1 10 (.load none (.t 9)) [9],
  o1 11 (.buildO 5 1 [(.int .u8 0)] [(0, 1, (.t 10))]) [10],
  o1 4 (.mv (.t 11)) [11]]
@[reducible] def fOpEnc_r2 : List (DOper × List Nat) := [
  o1 12 (.callP 67 []) [],
  o2 13 1 (.fieldAddr 0 (.t 1)) [],
  o2 14 2 (.load none (.t 13)) [13],
  o2 15 3 (.look false (.agg [(.int .i64 0), (.int .i64 0)]) (.t 12) (.t 14)) [12, 14],
  (⟨⟨(some 5), none, .alloc 136 [(.int .i64 0), (.int .i64 0)]⟩, 4, [2]⟩, []),
  (⟨⟨none, none, .store 2 (.t 5) (.t 15)⟩, 5, []⟩, [15])]
@[reducible] def fOpEnc_r3 : List (DOper × List Nat) := [
  o1 16 (.fieldAddr 0 (.t 5)) [],
  o1 17 (.load none (.t 16)) [16],
  o1 18 (.bin false .gtr (.t 17) (.k (.int .i64 0))) [17]]
@[reducible] def fOpEnc_r4 : List (DOper × List Nat) := [
  o1 19 (.mv (.t 4)) [4],
  o1 20 (.fieldAddr 1 (.t 1)) [],
  o1 21 (.load none (.t 20)) [20],
  o1 22 (.buildF 5 1 [(.int .u8 0)] [(0, 1, (.t 21))]) [21],
  o1 23 (.appO 5 1 1 (.t 19) (.t 22)) [19, 22],
  o1 4 (.mv (.t 23)) [23]]
@[reducible] def fOpEnc_k0 : KCode := (.kill [18] (.reg fOpEnc_r4))
@[reducible] def fOpEnc_r5 : List (DOper × List Nat) := [
  o1 24 (.fieldAddr 1 (.t 5)) [5],
  o1 25 (.load none (.t 24)) [24],
  o1 26 (.mv (.k (.int .i64 0))) []]
@[reducible] def fOpEnc_r6 : List (DOper × List Nat) := [
  o1 27 (.bin false .lss (.t 26) (.t 25)) []]
@[reducible] def fOpEnc_k1 : KCode := (.keep [1, 4] (.exit 0))
@[reducible] def fOpEnc_r7 : List (DOper × List Nat) := [
  o1 28 (.mv (.t 26)) [],
  o1 6 (.mv (.t 28)) [28]]
@[reducible] def fOpEnc_r8 : List (DOper × List Nat) := [
  o1 29 (.mv (.t 4)) [4],
  o1 30 (.fieldAddr 2 (.t 1)) [],
  o1 31 (.load none (.t 30)) [30],
  o1 32 (.mv (.t 6)) [6],
  o1 33 (.bin false .mul (.k (.int .i64 8)) (.t 32)) [32],
  o1 34 (.bin false .shr (.t 31) (.t 33)) [31, 33],
  o1 35 (.convI .u8 (.t 34)) [34],
  o1 36 (.buildF 5 1 [(.int .u8 0)] [(0, 1, (.t 35))]) [35],
  o1 37 (.appO 5 1 1 (.t 29) (.t 36)) [29, 36],
  o1 4 (.mv (.t 37)) [37]]
@[reducible] def fOpEnc_r9 : List (DOper × List Nat) := [
  o1 38 (.bin false .add (.t 26) (.k (.int .i64 1))) [26],
  o1 26 (.mv (.t 38)) [38]]
@[reducible] def fOpEnc_l2 : KCode := (.seq (.reg fOpEnc_r6) (.seq (.cond (.t 27) (.kill [27] .skip) fOpEnc_k1) (.kill [27] (.seq (.block 1 (.seq (.reg fOpEnc_r7) (.reg fOpEnc_r8))) (.keep [1, 4, 25, 26] (.reg fOpEnc_r9))))))
@[reducible] def fOpEnc_r10 : List (DOper × List Nat) := [
  o1 39 (.fieldAddr 0 (.t 1)) [],
  o1 40 (.load none (.t 39)) [39],
  o1 41 (.bin false .eql (.t 40) (.k (.int .u8 8))) [40]]
@[reducible] def fOpEnc_r11 : List (DOper × List Nat) := [
  o1 42 (.mv (.t 4)) [4],
  o1 43 (.fieldAddr 3 (.t 1)) [],
  o1 44 (.load none (.t 43)) [43],
  o1 45 (.appO 5 1 1 (.t 42) (.t 44)) [42, 44],
  o1 4 (.mv (.t 45)) [45]]
@[reducible] def fOpEnc_k3 : KCode := (.kill [41] (.reg fOpEnc_r11))
@[reducible] def fOpEnc_r12 : List (DOper × List Nat) := [
  o1 47 (.mv (.t 4)) [],
  o1 48 (.call 68 [(.t 47)]) [47],
  o1 46 (.mv (.t 48)) [48],
  o1 49 (.extract 0 (.t 46)) [],
  o1 50 (.extract 1 (.t 46)) [46],
  o1 7 (.alloc 46 [(.int .u8 0), (.int .u8 0), (.int .u32 0), (.list 1 ⟨true, true, false⟩ [])]) [],
  (⟨⟨none, none, .store 4 (.t 7) (.t 49)⟩, 0, []⟩, [49]),
  o1 8 (.mv (.t 50)) [50]]
@[reducible] def fOpEnc_r13 : List (DOper × List Nat) := [
  o1 51 (.mv (.t 8)) [8],
  o1 52 (.bin false .neq (.t 51) (.k (.int .i64 0))) [51],
  o1 53 (.mv (.t 52)) [52],
  (⟨⟨(some 54), (some (53, false)), .fieldAddr 0 (.t 7)⟩, 0, []⟩, []),
  (⟨⟨(some 55), (some (53, false)), .load none (.t 54)⟩, 0, []⟩, [54]),
  (⟨⟨(some 56), (some (53, false)), .fieldAddr 0 (.t 1)⟩, 0, []⟩, []),
  (⟨⟨(some 57), (some (53, false)), .load none (.t 56)⟩, 0, []⟩, [56]),
  (⟨⟨(some 58), (some (53, false)), .bin false .neq (.t 55) (.t 57)⟩, 0, []⟩, [55, 57]),
  o1 59 (.pick (.t 53) (.k (.bool true)) (.t 58)) [53, 58],
  o1 60 (.mv (.t 59)) [59],
  (⟨⟨(some 61), (some (60, false)), .fieldAddr 1 (.t 7)⟩, 0, []⟩, []),
  (⟨⟨(some 62), (some (60, false)), .load none (.t 61)⟩, 0, []⟩, [61]),
  (⟨⟨(some 63), (some (60, false)), .fieldAddr 1 (.t 1)⟩, 0, []⟩, []),
  (⟨⟨(some 64), (some (60, false)), .load none (.t 63)⟩, 0, []⟩, [63]),
  (⟨⟨(some 65), (some (60, false)), .bin false .neq (.t 62) (.t 64)⟩, 0, []⟩, [62, 64]),
  o1 66 (.pick (.t 60) (.k (.bool true)) (.t 65)) [60, 65],
  o1 67 (.mv (.t 66)) [66],
  (⟨⟨(some 68), (some (67, false)), .fieldAddr 2 (.t 7)⟩, 0, []⟩, []),
  (⟨⟨(some 69), (some (67, false)), .load none (.t 68)⟩, 0, []⟩, [68]),
  (⟨⟨(some 70), (some (67, false)), .fieldAddr 2 (.t 1)⟩, 0, []⟩, []),
  (⟨⟨(some 71), (some (67, false)), .load none (.t 70)⟩, 0, []⟩, [70]),
  (⟨⟨(some 72), (some (67, false)), .bin false .neq (.t 69) (.t 71)⟩, 0, []⟩, [69, 71]),
  o1 73 (.pick (.t 67) (.k (.bool true)) (.t 72)) [67, 72],
  o1 74 (.mv (.t 73)) [73],
  (⟨⟨(some 75), (some (74, false)), .fieldAddr 3 (.t 7)⟩, 0, []⟩, [7]),
  (⟨⟨(some 76), (some (74, false)), .load none (.t 75)⟩, 0, []⟩, [75]),
  (⟨⟨(some 77), (some (74, false)), .fieldAddr 3 (.t 1)⟩, 0, []⟩, [1]),
  (⟨⟨(some 78), (some (74, false)), .load none (.t 77)⟩, 0, []⟩, [77]),
  (⟨⟨(some 79), (some (74, false)), .call 61 [(.t 76), (.t 78)]⟩, 0, []⟩, [76, 78]),
  (⟨⟨(some 80), (some (74, false)), .un .not (.t 79)⟩, 0, []⟩, [79]),
  o1 81 (.pick (.t 74) (.k (.bool true)) (.t 80)) [74, 80]]
@[reducible] def fOpEnc_r14 : List (DOper × List Nat) := [
  o1 2 (.mv (.k (.list 1 ⟨true, true, false⟩ []))) [],
  o1 3 (.mv (.k (.int .i64 1))) []]
@[reducible] def fOpEnc_k4 : KCode := (.keep [] (.seq (.reg fOpEnc_r14) .ret))
@[reducible] def fOpEnc_r15 : List (DOper × List Nat) := [
  o1 82 (.mv (.t 4)) [4],
  o1 2 (.mv (.t 82)) [82],
  o1 3 (.mv (.k (.int .i64 0))) []]
@[reducible] def fOpEnc : KCode := (.seq (.reg fOpEnc_r0) (.seq (.reg fOpEnc_r1) (.seq (.draw fOpEnc_r2) (.seq (.seq (.reg fOpEnc_r3) (.cond (.t 18) fOpEnc_k0 (.kill [18] .skip))) (.keep [1, 4, 5] (.seq (.seq (.reg fOpEnc_r5) (.block 0 (.loop fOpEnc_l2))) (.keep [1, 4] (.seq (.seq (.reg fOpEnc_r10) (.cond (.t 41) fOpEnc_k3 (.kill [41] .skip))) (.keep [1, 4] (.seq (.reg fOpEnc_r12) (.seq (.seq (.reg fOpEnc_r13) (.cond (.t 81) fOpEnc_k4 (.kill [81] .skip))) (.keep [4] (.seq (.reg fOpEnc_r15) .ret)))))))))))))
@[reducible] def fOpEnc_rs : List IRes := [.tmp 2, .tmp 3]
theorem fOpEnc_low : lowFunc Try.prog 47 [(1, 2), (2, 0)] [] = some ⟨fOpEnc.bare, fOpEnc_rs, 83⟩ := by kernel_rfl
@[reducible] def fEqB : KCode := by
  refine (?f : lowF Try.progTables Try.f61 [] [] = ?c → annF false [] [] ?c = ?k → KCode) ?h ?i
  case h => cbv; exact rfl
  case i => cbv; exact rfl
  exact fun _ _ => ?k
theorem fEqB_low : lowFunc Try.prog 61 [] [] = some ⟨fEqB.bare, [.tmp 4], 26⟩ := by kernel_rfl
end Go.Proofs.Ytifgdmfapammfaa
namespace Go.Proofs.Ytifgdmfapammfaa
open Go Go.Fw
attribute [local irreducible] W WX WR WO WS WSr WH WHA WG WC FSpec
def formsL : List (Int × CV) := [(0, .ints [(.i64, 0), (.i64, 0)]), (1, .ints [(.i64, 1), (.i64, 4)]), (2, .ints [(.i64, 0), (.i64, 2)]), (3, .ints [(.i64, 0), (.i64, 0)]), (4, .ints [(.i64, 0), (.i64, 0)]), (6, .ints [(.i64, 1), (.i64, 0)]), (7, .ints [(.i64, 0), (.i64, 0)]), (9, .ints [(.i64, 1), (.i64, 0)]), (12, .ints [(.i64, 0), (.i64, 0)])]
theorem fForms_map : bldFn Try.prog 67 .u8 = some formsL := by kernel_rfl
theorem fForms_spec (H : Heap) : FSpec Try.prog 67 [] H (.map .u8 formsL) H := FSpec.of_map fForms_map H
def fT (o : UInt8) : Nat := if o = 1 ∨ o = 6 ∨ o = 9 then 1 else 0
def fS (o : UInt8) : Nat := if o = 1 then 4 else if o = 2 then 2 else 0
def fOk (o : UInt8) : Bool := o = 0 ∨ o = 1 ∨ o = 2 ∨ o = 3 ∨ o = 4 ∨ o = 6 ∨ o = 7 ∨ o = 9 ∨ o = 12
def frmV (o : UInt8) : AV := .agg [.int .i64 (fT o), .int .i64 (fS o)]
theorem look_forms (o : UInt8) : lookV true (.agg [.int .i64 0, .int .i64 0]) formsL o.toNat = .tuple [frmV o, .bool (fOk o)] := by
  simp only [lookV, formsL, lookC, frmV, fT, fS, fOk]
  by_cases e0 : o = 0
  · subst e0; simp [CV.av]
  by_cases e1 : o = 1
  · subst e1; simp [CV.av]
  by_cases e2 : o = 2
  · subst e2; simp [CV.av]
  by_cases e3 : o = 3
  · subst e3; simp [CV.av]
  by_cases e4 : o = 4
  · subst e4; simp [CV.av]
  by_cases e6 : o = 6
  · subst e6; simp [CV.av]
  by_cases e7 : o = 7
  · subst e7; simp [CV.av]
  by_cases e9 : o = 9
  · subst e9; simp [CV.av]
  by_cases e12 : o = 12
  · subst e12; simp [CV.av]
  have n0 : ¬ ((o.toNat : Int) = 0) := by rw [u8i o 0 (by omega)]; exact e0
  have n1 : ¬ ((o.toNat : Int) = 1) := by rw [u8i o 1 (by omega)]; exact e1
  have n2 : ¬ ((o.toNat : Int) = 2) := by rw [u8i o 2 (by omega)]; exact e2
  have n3 : ¬ ((o.toNat : Int) = 3) := by rw [u8i o 3 (by omega)]; exact e3
  have n4 : ¬ ((o.toNat : Int) = 4) := by rw [u8i o 4 (by omega)]; exact e4
  have n6 : ¬ ((o.toNat : Int) = 6) := by rw [u8i o 6 (by omega)]; exact e6
  have n7 : ¬ ((o.toNat : Int) = 7) := by rw [u8i o 7 (by omega)]; exact e7
  have n9 : ¬ ((o.toNat : Int) = 9) := by rw [u8i o 9 (by omega)]; exact e9
  have n12 : ¬ ((o.toNat : Int) = 12) := by rw [u8i o 12 (by omega)]; exact e12
  have n00 : ¬ o.toNat = 0 := by omega
  simp [n00, e0, e1, e2, e3, e4, e6, e7, e9, e12, n0, n1, n2, n3, n4, n6, n7, n9, n12]
theorem look_forms0 (o : UInt8) : lookV false (.agg [.int .i64 0, .int .i64 0]) formsL o.toNat = frmV o := by
  have h := look_forms o
  unfold lookV at h ⊢
  split at h <;> simp at h <;> simp [h.1]
structure Req16 where
  op : UInt8
  ty : UInt8
  size : Nat
  data : List UInt8
  deriving DecidableEq
def reqV (r : Req16) : List AV := [bv r.op, bv r.ty, .int .u32 r.size, .list 1 ⟨false, false, false⟩ (r.data.map bv)]
def z16 : Req16 := ⟨0, 0, 0, []⟩
def leN : List UInt8 → Nat
  | [] => 0
  | x :: l => x.toNat + 256 * leN l
def parQ : List UInt8 → Req16 × Int
  | [] => (z16, 18)
  | o :: r => if o = 8 then (if 64 < r.length then (z16, 17) else if r.length = 0 then (z16, 18) else (⟨o, 0, 0, r⟩, 0))
    else if fOk o = false then (z16, 19) else if r.length < fT o + fS o then (z16, 18) else if fT o + fS o < r.length then (z16, 17)
    else (⟨o, if 0 < fT o then r.headD 0 else 0, leN (r.drop (fT o)), []⟩, 0)
def parR (x : Req16 × Int) : AV := .tuple [.agg (reqV x.1), .int .i64 x.2]
theorem leN_lt : ∀ (l : List UInt8), leN l < 256 ^ l.length
  | [] => by simp [leN]
  | x :: l => by
    have := leN_lt l
    have := x.toNat_lt
    simp only [leN, List.length_cons, Nat.pow_succ]
    omega
theorem leN_take : ∀ (l : List UInt8) (i : Nat) (h : i < l.length), leN (l.take (i + 1)) = leN (l.take i) + l[i].toNat * 256 ^ i
  | x :: l, 0, h => by simp [leN]
  | x :: l, i + 1, h => by
    have ih := leN_take l i (by simpa using h)
    simp only [List.take_succ_cons, leN, ih, List.getElem_cons_succ, Nat.pow_succ]
    generalize leN (List.take i l) = a
    generalize 256 ^ i = b
    rw [Nat.mul_add, Nat.add_assoc]
    congr 2
    rw [Nat.mul_comm 256, Nat.mul_assoc]
theorem wrap32n {n : Nat} (h : n < 2 ^ 32) : IntKind.u32.wrap (n : Int) = n := by
  unfold IntKind.wrap
  simp [IntKind.signed, IntKind.bits]
  omega
theorem bitI_or32 (a b : Nat) (ha : a < 2 ^ 32) (hb : b < 2 ^ 32) : bitI .or .u32 a b = (a ||| b : Nat) := by
  have h1 : BitVec.ofInt 32 (a : Int) = BitVec.ofNat 32 a := by simp
  have h2 : BitVec.ofInt 32 (b : Int) = BitVec.ofNat 32 b := by simp
  have h3 : a ||| b < 2 ^ 32 := Nat.or_lt_two_pow ha hb
  show IntKind.u32.wrap (((BitVec.ofInt 32 (a : Int) ||| BitVec.ofInt 32 (b : Int)).toNat : Nat) : Int) = _
  rw [h1, h2, BitVec.toNat_or, BitVec.toNat_ofNat, BitVec.toNat_ofNat, Nat.mod_eq_of_lt ha, Nat.mod_eq_of_lt hb]
  exact wrap32n h3
theorem or_le (i a c : Nat) (ha : a < 256 ^ i) (hi : i < 4) (hc : c < 256) : bitI .or .u32 a (IntKind.u32.wrap ((c : Int) * 2 ^ (8 * i))) = (a + c * 256 ^ i : Nat) := by
  have hp : (256 : Nat) ^ i = 2 ^ (8 * i) := by rw [show (256 : Nat) = 2 ^ 8 from rfl, ← Nat.pow_mul]
  have hle : (256 : Nat) ^ i ≤ 256 ^ 3 := Nat.pow_le_pow_right (by omega) (by omega)
  have hm : c * 256 ^ i ≤ 255 * 256 ^ i := Nat.mul_le_mul_right _ (by omega)
  have hm2 : (255 : Nat) * 256 ^ i ≤ 255 * 256 ^ 3 := Nat.mul_le_mul_left _ hle
  have hlt : c * 256 ^ i < 2 ^ 32 := by omega
  have hw : IntKind.u32.wrap ((c : Int) * 2 ^ (8 * i)) = (c * 256 ^ i : Nat) := by
    rw [show ((c : Int) * 2 ^ (8 * i)) = ((c * 256 ^ i : Nat) : Int) by rw [hp]; simp]
    exact wrap32n hlt
  rw [hw, bitI_or32 _ _ (by omega) hlt]
  congr 1
  rw [hp] at ha ⊢
  rw [Nat.mul_comm c, Nat.or_comm, ← Nat.two_pow_add_eq_or_of_lt ha, Nat.add_comm]
end Go.Proofs.Ytifgdmfapammfaa
namespace Go.Proofs.Ytifgdmfapammfaa
open Go Go.Fw
attribute [local irreducible] W WX WR WO WS WSr WH WHA WG WC FSpec
theorem par_loop (o ty : UInt8) (d : List UInt8) (m : Md) (hd : d.length ≤ 4) (R : AV) (hR : R = parR (⟨o, ty, leN d, []⟩, 0)) (g : Option Blk) :
    W Try.prog 0 [It.c fOpPar_l12.loop, It.blk 1, It.c (KCode.keep [2, 4] ((KCode.reg fOpPar_r24).seq KCode.ret))]
      [(2, .ptr 0 0), (4, .ptr 1 0), (92, .list 1 m (d.map bv)), (93, .int .i64 d.length), (94, .int .i64 0)]
      [some ⟨[.int .u8 0, .int .u8 0, .int .u32 0, .list 1 ⟨true, true, false⟩ []], 46, true⟩, some ⟨[bv o, bv ty, .int .u32 0, .list 1 ⟨true, true, false⟩ []], 46, true⟩, g]
      (retPost fOpPar_rs (fin 0 R [])) := by
  refine W_loop (X := { i : Nat // i ≤ d.length }) (fun i => [(2, .ptr 0 0), (4, .ptr 1 0), (92, .list 1 m (d.map bv)), (93, .int .i64 d.length), (94, .int .i64 i.1)])
    (fun i => [some ⟨[.int .u8 0, .int .u8 0, .int .u32 0, .list 1 ⟨true, true, false⟩ []], 46, true⟩, some ⟨[bv o, bv ty, .int .u32 (leN (d.take i.1)), .list 1 ⟨true, true, false⟩ []], 46, true⟩, none]) (fun i => d.length - i.1) ⟨0, by simp⟩ retPost_le ?_ ?_
  · refine cut_w ?_
    simp [leN]
  · rintro ⟨i, hi⟩
    simp only
    simp
    refine WC_dec (fun h => ?_) (fun h => ?_)
    · have h' : i < d.length := by omega
      have hc : d[i]? = some d[i] := by simp
      have hw : IntKind.u32.wrap (d[i].toNat : Int) = d[i].toNat := wrap32n (by have := d[i].toNat_lt; omega)
      have hw2 : IntKind.i64.wrap (8 * (i : Int)) = ((8 * i : Nat) : Int) := by rw [wrap64 (by omega) (by omega)]; omega
      have hor := or_le i (leN (d.take i)) d[i].toNat (by have := leN_lt (d.take i); rw [List.length_take, Nat.min_eq_left hi] at this; exact this) (by omega) d[i].toNat_lt
      simp [hc, hw, hw2]
      refine ⟨h', by omega, ?_⟩
      have hmin : min (8 * (i : Int)).toNat IntKind.u32.bits = 8 * i := by simp only [IntKind.bits]; omega
      rw [hmin, hor]
      refine ⟨⟨i + 1, h'⟩, ?_, ?_⟩
      · simp; omega
      · refine cut_w ?_
        simp
        rw [wrap64 (by omega) (by omega), leN_take d i h']
        simp
    · have : i = d.length := by omega
      subst this
      simp [loadWP]
      exact fin_W (by simp [hR, parR, reqV])
theorem fOpPar_spec (b : List UInt8) (md : Md) (hb : b.length < 2 ^ 40) : FSpec Try.prog 68 [.list 1 md (b.map bv)] [] (parR (parQ b)) [] := by
  refine FSpec.of_W fOpPar_low (by simp) ?_
  simp only [initEnv]
  simp
  rcases b with _ | ⟨o, r⟩
  · simp [loadWP]
    exact fin_W (by simp [parR, reqV, parQ, z16])
  simp at hb
  simp
  refine WO_callQ rfl (fForms_spec []) (by simp) ?_
  simp [look_forms, frmV]
  have hT : fT o ≤ 1 := by unfold fT; split <;> omega
  have hS : fS o ≤ 4 := by unfold fS; split <;> (try split) <;> omega
  have w2 : IntKind.i64.wrap (1 + (fT o : Int)) = ((1 + fT o : Nat) : Int) := by
    rw [wrap64 (by omega) (by omega)]
    omega
  have w1 : IntKind.i64.wrap (IntKind.i64.wrap (1 + (fT o : Int)) + (fS o : Int)) = ((1 + fT o + fS o : Nat) : Int) := by
    rw [w2, wrap64 (by omega) (by omega)]
    omega
  by_cases h8 : o = 8
  · subst h8
    by_cases hl : 64 < r.length
    · have e2 : (65 : Int) < (r.length : Int) + 1 := by omega
      simp [e2, w1, loadWP]
      exact fin_W (by simp [parR, reqV, parQ, z16, hl])
    have e2 : ¬ (65 : Int) < (r.length : Int) + 1 := by omega
    by_cases h0 : r = []
    · subst h0
      simp [loadWP, w1]
      exact fin_W (by simp [parR, reqV, parQ, z16])
    have h1 : 0 < r.length := List.length_pos_iff.2 h0
    have e3 : (1 : Int) < (r.length : Int) + 1 := by omega
    simp [e2, e3, w1]
    refine ⟨by omega, ?_⟩
    refine WO_callP (as' := [.list 1 ⟨md.nl, md.full, md.bw⟩ (r.map bv)]) [] rfl (by simp [List.take_of_length_le]) (fCloneB_spec r _ (by omega)) (by simp) (by simp) ?_
    simp [loadWP]
    exact fin_W (by simp [parR, reqV, parQ, z16, hl, h0])
  · by_cases hk : fOk o = true
    · by_cases hl1 : r.length < fT o + fS o
      · have e2 : (r.length : Int) + 1 < 1 + (fT o : Int) + (fS o : Int) := by omega
        simp [h8, hk, w1, e2, loadWP]
        exact fin_W (by simp [parR, reqV, parQ, z16, h8, hk, hl1])
      have e2 : ¬ (r.length : Int) + 1 < 1 + (fT o : Int) + (fS o : Int) := by omega
      by_cases hl2 : fT o + fS o < r.length
      · have e3 : 1 + (fT o : Int) + (fS o : Int) < (r.length : Int) + 1 := by omega
        simp [h8, hk, w1, e2, e3, loadWP]
        exact fin_W (by simp [parR, reqV, parQ, z16, h8, hk, hl1, hl2])
      have e3 : ¬ 1 + (fT o : Int) + (fS o : Int) < (r.length : Int) + 1 := by omega
      simp [h8, hk, w1, e2, e3]
      have hr : r.length = fT o + fS o := by omega
      rcases Nat.eq_zero_or_pos (fT o) with h0 | h0
      · simp only [h0] at hr hl1 hl2 ⊢
        have wr1 : IntKind.i64.wrap 1 = 1 := rfl
        simp
        simp only [wr1]
        simp
        simp only [Nat.zero_add] at hr hl1 hl2
        refine ⟨by omega, ?_⟩
        have := par_loop o 0 r ⟨md.nl, md.full, md.bw⟩ (by omega) (parR (parQ (o :: r))) (by simp [parR, parQ, h8, hk, h0, hl1, hl2]) (some ⟨[.int .i64 0, .int .i64 (fS o)], 136, true⟩)
        simpa [List.take_of_length_le] using this
      · have h1 : fT o = 1 := by omega
        obtain ⟨x, d, rfl⟩ : ∃ x d, r = x :: d := by
          cases r with
          | nil => simp at hr; omega
          | cons x d => exact ⟨x, d, rfl⟩
        simp only [h1] at hr hl1 hl2 ⊢
        have wr1 : IntKind.i64.wrap 2 = 2 := rfl
        simp
        simp only [wr1]
        simp
        refine ⟨by omega, ?_⟩
        simp only [List.length_cons] at hr hl1 hl2
        have := par_loop o x d ⟨md.nl, md.full, md.bw⟩ (by omega) (parR (parQ (o :: x :: d))) (by simp [parR, parQ, h8, hk, h1, hl1, hl2]) (some ⟨[.int .i64 1, .int .i64 (fS o)], 136, true⟩)
        simpa [List.take_of_length_le] using this
    · simp [h8, hk, w1, loadWP]
      exact fin_W (by simp [parR, reqV, parQ, z16, h8, hk])
end Go.Proofs.Ytifgdmfapammfaa
namespace Go.Proofs.Ytifgdmfapammfaa
open Go Go.Fw
attribute [local irreducible] W WX WR WO WS WSr WH WHA WG WC FSpec
theorem fEqB_spec (a b : List UInt8) (m m' : Md) (ha : a.length < 2 ^ 47) (hb : b.length < 2 ^ 47) : FSpec Try.prog 61 [.list 1 m (a.map bv), .list 1 m' (b.map bv)] [] (.bool (decide (a = b))) [] := by
  refine FSpec.of_W fEqB_low (by simp) ?_
  simp only [initEnv]
  simp
  refine WC_ndec (fun h => ?_) (fun h => ?_)
  · simp
    refine fin_W ?_
    simp
    intro hab
    exact h (by rw [hab])
  · have hl : a.length = b.length := by omega
    simp
    refine W_loop (X := { i : Nat // i ≤ a.length ∧ a.take i = b.take i }) (fun i => [(0, .list 1 m (a.map bv)), (1, .list 1 m' (b.map bv)), (12, .int .i64 a.length), (13, .int .i64 i.1)]) (fun _ => []) (fun i => a.length - i.1) ⟨0, by simp⟩ retPost_le ?_ ?_
    · refine cut_w ?_
      simp
    · rintro ⟨i, hi, he⟩
      simp only
      simp
      refine WC_dec (fun h => ?_) (fun h => ?_)
      · have h1 : i < a.length := by omega
        have h2 : i < b.length := by omega
        have hc : a[i]? = some a[i] := by simp
        have hc2 : b[i]? = some b[i] := by simp
        simp [hc, hc2]
        refine ⟨h1, h2, ?_⟩
        refine WC_ndec (fun hx => ?_) (fun hx => ?_)
        · simp
          refine fin_W ?_
          simp
          intro hab
          exact hx (by simp [hab])
        · simp
          refine ⟨⟨i + 1, h1, ?_⟩, ?_, ?_⟩
          · rw [List.take_add_one, List.take_add_one, he, hc, hc2, hx]
          · simp; omega
          · refine cut_w ?_
            simp
            rw [wrap64 (by omega) (by omega)]
      · have hi : i = a.length := by omega
        subst hi
        have hab : a = b := by
          rw [List.take_of_length_le (Nat.le_refl _), List.take_of_length_le (by omega)] at he
          exact he
        simp
        exact fin_W (by simp [hab])
end Go.Proofs.Ytifgdmfapammfaa
namespace Go.Proofs.Ytifgdmfapammfaa
open Go Go.Fw
attribute [local irreducible] W WX WR WO WS WSr WH WHA WG WC FSpec
def leB (n s : Nat) : List UInt8 := (List.range n).map fun i => UInt8.ofNat (s / 256 ^ i)
theorem leB_succ (n s : Nat) : leB (n + 1) s = leB n s ++ [UInt8.ofNat (s / 256 ^ n)] := by simp [leB, List.range_succ]
def preB (r : Req16) : List UInt8 := r.op :: (if 0 < fT r.op then [r.ty] else [])
def encB (r : Req16) : List UInt8 := preB r ++ leB (fS r.op) r.size ++ (if r.op = 8 then r.data else [])
def encQ (r : Req16) : List UInt8 × Int := if (parQ (encB r)).2 = 0 ∧ (parQ (encB r)).1 = r then (encB r, 0) else ([], 1)
theorem shr_u8 (s i : Nat) : IntKind.u8.wrap ((s : Int).fdiv (2 ^ (8 * i))) = ((UInt8.ofNat (s / 256 ^ i)).toNat : Int) := by
  have h1 : (s : Int).fdiv (2 ^ (8 * i)) = ((s / 256 ^ i : Nat) : Int) := by
    rw [show (256 : Nat) = 2 ^ 8 from rfl, ← Nat.pow_mul, show ((2 : Int) ^ (8 * i)) = ((2 ^ (8 * i) : Nat) : Int) by simp]
    exact (Int.ofNat_fdiv _ _).symm
  rw [h1, UInt8.toNat_ofNat']
  generalize s / 256 ^ i = n
  unfold IntKind.wrap
  simp [IntKind.signed, IntKind.bits]
def enH (r : Req16) (md : Md) (i : Nat) : Heap := [some ⟨[bv r.op, bv r.ty, .int .u32 r.size, .list 1 md (r.data.map bv)], 46, true⟩, some ⟨(preB r ++ leB i r.size).map bv, 5, false⟩]
theorem parQ_data (b : List UInt8) : (parQ b).1.data.length ≤ 64 := by
  cases b with
  | nil => simp [parQ, z16]
  | cons o r =>
    simp only [parQ]
    split
    · split
      · simp [z16]
      · split
        · simp [z16]
        · simp; omega
    · split
      · simp [z16]
      · split
        · simp [z16]
        · split <;> simp [z16]
theorem encQ_no {r : Req16} (h : ¬ ((parQ (encB r)).2 = 0 ∧ (parQ (encB r)).1 = r)) : encQ r = ([], 1) := by simp only [encQ]; rw [if_neg h]
theorem encQ_yes {r : Req16} (h : (parQ (encB r)).2 = 0 ∧ (parQ (encB r)).1 = r) : encQ r = (encB r, 0) := by simp only [encQ]; rw [if_pos h]
theorem req_ext {a b : Req16} (h1 : a.op = b.op) (h2 : a.ty = b.ty) (h3 : a.size = b.size) (h4 : a.data = b.data) : a = b := by cases a; cases b; simp_all
theorem enc_end (r : Req16) (md : Md) (hmd : md.bw = false) (hd : r.data.length < 2 ^ 30) (hn : (encB r).length < 2 ^ 32) (k : Nat) (G : Heap) (hG : (k = 1 ∧ G = [some ⟨(encB r).map bv, 5, false⟩]) ∨ (k = 2 ∧ G = [none, some ⟨(encB r).map bv, 5, false⟩])) :
    W Try.prog 0 [It.c (KCode.keep [1, 4]
          ((KCode.reg fOpEnc_r12).seq
            (((KCode.reg fOpEnc_r13).seq (KCode.cond (Opd.t 81) fOpEnc_k4 (KCode.kill [81] KCode.skip))).seq
              (KCode.keep [4] ((KCode.reg fOpEnc_r15).seq KCode.ret)))))]
      [(1, .ptr 0 0), (4, .slice 1 k 0 (encB r).length none)] (some ⟨[bv r.op, bv r.ty, .int .u32 r.size, .list 1 md (r.data.map bv)], 46, true⟩ :: G)
      (retPost fOpEnc_rs (fin 0 (.tuple [.list 1 ⟨false, false, false⟩ ((encQ r).1.map bv), .int .i64 (encQ r).2]) [])) := by
  have hdl := parQ_data (encB r)
  rcases hG with ⟨rfl, rfl⟩ | ⟨rfl, rfl⟩
  · simp
    refine WO_callP (as' := [.list 1 ⟨false, false, true⟩ ((encB r).map bv)]) [1] rfl (by simp [List.take_of_length_le]) (fOpPar_spec (encB r) _ (by omega)) (by simp [parR, reqV]) (by simp) ?_
    simp [parR, reqV]
    by_cases h0 : (parQ (encB r)).2 = 0
    · by_cases h1 : (parQ (encB r)).1.op = r.op
      · by_cases h2 : (parQ (encB r)).1.ty = r.ty
        · by_cases h3 : (parQ (encB r)).1.size = r.size
          · simp [h0, h1, h2, h3]
            refine WO_callP (as' := [.list 1 ⟨false, false, false⟩ ((parQ (encB r)).1.data.map bv), .list 1 md (r.data.map bv)]) [] rfl rfl (fEqB_spec _ r.data _ _ (by omega) (by omega)) (by simp) (by simp) ?_
            by_cases h4 : (parQ (encB r)).1.data = r.data
            · simp [h4]
              rw [encQ_yes ⟨h0, req_ext h1 h2 h3 h4⟩]
              refine fin_F 1 rfl (fin_W ?_)
              simp [List.take_of_length_le]
            · simp [h4]
              rw [encQ_no (fun h => h4 (congrArg Req16.data h.2))]
              refine fin_W ?_
              simp
          · have h3' : ¬ ((parQ (encB r)).1.size : Int) = (r.size : Int) := fun h => h3 (Int.natCast_inj.1 h)
            simp [h0, h1, h2, h3']
            rw [encQ_no (fun h => h3 (congrArg Req16.size h.2))]
            refine fin_W ?_
            simp
        · simp [h0, h1, h2]
          rw [encQ_no (fun h => h2 (congrArg Req16.ty h.2))]
          exact fin_W (by simp)
      · simp [h0, h1]
        rw [encQ_no (fun h => h1 (congrArg Req16.op h.2))]
        exact fin_W (by simp)
    · simp [h0]
      rw [encQ_no (fun h => h0 h.1)]
      exact fin_W (by simp)
  · simp
    refine WO_callP (as' := [.list 1 ⟨false, false, true⟩ ((encB r).map bv)]) [2] rfl (by simp [List.take_of_length_le]) (fOpPar_spec (encB r) _ (by omega)) (by simp [parR, reqV]) (by simp) ?_
    simp [parR, reqV]
    by_cases h0 : (parQ (encB r)).2 = 0
    · by_cases h1 : (parQ (encB r)).1.op = r.op
      · by_cases h2 : (parQ (encB r)).1.ty = r.ty
        · by_cases h3 : (parQ (encB r)).1.size = r.size
          · simp [h0, h1, h2, h3]
            refine WO_callP (as' := [.list 1 ⟨false, false, false⟩ ((parQ (encB r)).1.data.map bv), .list 1 md (r.data.map bv)]) [] rfl rfl (fEqB_spec _ r.data _ _ (by omega) (by omega)) (by simp) (by simp) ?_
            by_cases h4 : (parQ (encB r)).1.data = r.data
            · simp [h4]
              rw [encQ_yes ⟨h0, req_ext h1 h2 h3 h4⟩]
              refine fin_F 2 rfl (fin_W ?_)
              simp [List.take_of_length_le]
            · simp [h4]
              rw [encQ_no (fun h => h4 (congrArg Req16.data h.2))]
              refine fin_W ?_
              simp
          · have h3' : ¬ ((parQ (encB r)).1.size : Int) = (r.size : Int) := fun h => h3 (Int.natCast_inj.1 h)
            simp [h0, h1, h2, h3']
            rw [encQ_no (fun h => h3 (congrArg Req16.size h.2))]
            refine fin_W ?_
            simp
        · simp [h0, h1, h2]
          rw [encQ_no (fun h => h2 (congrArg Req16.ty h.2))]
          exact fin_W (by simp)
      · simp [h0, h1]
        rw [encQ_no (fun h => h1 (congrArg Req16.op h.2))]
        exact fin_W (by simp)
    · simp [h0]
      rw [encQ_no (fun h => h0 h.1)]
      exact fin_W (by simp)
theorem enc_loop (r : Req16) (md : Md) (hmd : md.bw = false) (hs : r.size < 2 ^ 32) (hd : r.data.length < 2 ^ 30) (e : Env) (H : Heap)
    (hc : cut 0 e H [(1, .ptr 0 0), (4, .slice 1 1 0 (preB r).length none), (25, .int .i64 (fS r.op)), (26, .int .i64 0)] (enH r md 0)) :
    W Try.prog 0 [It.c fOpEnc_l2.loop, It.blk 0, It.c (KCode.keep [1, 4]
                (((KCode.reg fOpEnc_r10).seq (KCode.cond (Opd.t 41) fOpEnc_k3 (KCode.kill [41] KCode.skip))).seq
                  (KCode.keep [1, 4]
                    ((KCode.reg fOpEnc_r12).seq
                      (((KCode.reg fOpEnc_r13).seq (KCode.cond (Opd.t 81) fOpEnc_k4 (KCode.kill [81] KCode.skip))).seq
                        (KCode.keep [4] ((KCode.reg fOpEnc_r15).seq KCode.ret)))))))] e H
      (retPost fOpEnc_rs (fin 0 (.tuple [.list 1 ⟨false, false, false⟩ ((encQ r).1.map bv), .int .i64 (encQ r).2]) [])) := by
  have hS : fS r.op ≤ 4 := by unfold fS; split <;> (try split) <;> omega
  have hpl : (preB r).length ≤ 2 := by unfold preB; split <;> simp
  have hlb : ∀ n, (leB n r.size).length = n := by intro n; simp [leB]
  refine W_loop (X := { i : Nat // i ≤ fS r.op }) (fun i => [(1, .ptr 0 0), (4, .slice 1 1 0 ((preB r).length + i.1) none), (25, .int .i64 (fS r.op)), (26, .int .i64 i.1)]) (fun i => enH r md i.1) (fun i => fS r.op - i.1) ⟨0, by simp⟩ retPost_le ?_ ?_
  · simpa using hc
  · rintro ⟨i, hi⟩
    simp only
    simp [enH]
    refine WC_dec (fun h => ?_) (fun h => ?_)
    · have hw2 : IntKind.i64.wrap (8 * (i : Int)) = ((8 * i : Nat) : Int) := by rw [wrap64 (by omega) (by omega)]; omega
      simp [hw2, hlb]
      refine ⟨by omega, ⟨by omega, by omega⟩, ?_⟩
      have hmin : min (8 * (i : Int)).toNat IntKind.u32.bits = 8 * i := by simp only [IntKind.bits]; omega
      rw [hmin, shr_u8]
      refine ⟨⟨i + 1, h⟩, ?_, ?_⟩
      · simp; omega
      · refine cut_rw [0, 2] (by simp) rfl ?_ ?_
        · simp
          rw [wrap64 (by omega) (by omega)]
          simp
          omega
        · simp [leB_succ, hlb, List.take_of_length_le]
    · have : i = fS r.op := by omega
      subst this
      have hbl : (encB r).length < 2 ^ 32 := by
        simp only [encB, List.length_append, hlb]
        split <;> simp <;> omega
      simp
      by_cases h8 : r.op = 8
      · have hS0 : fS r.op = 0 := by rw [h8]; rfl
        have := enc_end r md hmd hd hbl 2 [none, some ⟨(encB r).map bv, 5, false⟩] (.inr ⟨rfl, rfl⟩)
        have e8 : fS 8 = 0 := rfl
        simp [h8, e8]
        simp [h8, encB, e8, leB] at this
        refine ⟨by omega, ?_⟩
        simpa [leB, List.take_of_length_le] using this
      · simp [h8]
        have := enc_end r md hmd hd hbl 1 [some ⟨(encB r).map bv, 5, false⟩] (.inl ⟨rfl, rfl⟩)
        simpa [encB, h8, hlb] using this
theorem fOpEnc_spec (r : Req16) (md : Md) (hmd : md.bw = false) (hs : r.size < 2 ^ 32) (hd : r.data.length < 2 ^ 30) :
    FSpec Try.prog 47 [.agg [bv r.op, bv r.ty, .int .u32 r.size, .list 1 md (r.data.map bv)]] [] (.tuple [.list 1 ⟨false, false, false⟩ ((encQ r).1.map bv), .int .i64 (encQ r).2]) [] := by
  refine FSpec.of_W fOpEnc_low (by simp) ?_
  simp only [initEnv]
  simp [hmd]
  refine WO_callQ rfl (fForms_spec []) (by simp) ?_
  simp [look_forms0, frmV]
  refine WC_dec (fun h => ?_) (fun h => ?_)
  · simp
    refine enc_loop r md hmd hs hd _ _ (cut_rw [0, 3] (by simp) rfl ?_ ?_)
    · simp [preB, h]
    · simp [enH, preB, h, leB]
  · simp
    have := enc_loop r md hmd hs hd
    refine this _ _ (cut_w ?_)
    simp [enH, preB, h, leB]
end Go.Proofs.Ytifgdmfapammfaa
namespace Go.Proofs.Ytifgdmfapammfaa
open Go Go.Fw
attribute [local irreducible] W WX WR WO WS WSr WH WHA WG WC FSpec
end Go.Proofs.Ytifgdmfapammfaa
namespace Go.Proofs.Ytifgdmfapammfaa
open Go Go.Fw
attribute [local irreducible] W WX WR WO WS WSr WH WHA WG WC FSpec
end Go.Proofs.Ytifgdmfapammfaa
namespace Go.Proofs.Ytifgdmfapammfaa
open Go.Fw
set_option maxRecDepth 100000
set_option maxHeartbeats 4000000
@[reducible] def fSlEnc : KCode := by
  refine (?f : lowF Try.progTables Try.f48 [] [] = ?c → annF false [] [] ?c = ?k → KCode) ?h ?i
  case h => cbv; exact rfl
  case i => cbv; exact rfl
  exact fun _ _ => ?k
theorem fSlEnc_low : lowFunc Try.prog 48 [] [] = some ⟨fSlEnc.bare, [.tmp 2], 41⟩ := by kernel_rfl
@[reducible] def fUpNew : KCode := by
  refine (?f : lowF Try.progTables Try.f7 [] [] = ?c → annF false [] [] ?c = ?k → KCode) ?h ?i
  case h => cbv; exact rfl
  case i => cbv; exact rfl
  exact fun _ _ => ?k
theorem fUpNew_low : lowFunc Try.prog 7 [] [] = some ⟨fUpNew.bare, [.tmp 4, .tmp 5], 38⟩ := by kernel_rfl
@[reducible] def fUpFrames : KCode := by
  refine (?f : lowF Try.progTables Try.f23 [] [] = ?c → annF false [] [] ?c = ?k → KCode) ?h ?i
  case h => cbv; exact rfl
  case i => cbv; exact rfl
  exact fun _ _ => ?k
theorem fUpFrames_low : lowFunc Try.prog 23 [] [] = some ⟨fUpFrames.bare, [.tmp 2], 28⟩ := by kernel_rfl
@[reducible] def fUpSend : KCode := by
  refine (?f : lowF Try.progTables Try.f8 [] [] = ?c → annF false [] [] ?c = ?k → KCode) ?h ?i
  case h => cbv; exact rfl
  case i => cbv; exact rfl
  exact fun _ _ => ?k
theorem fUpSend_low : lowFunc Try.prog 8 [] [] = some ⟨fUpSend.bare, [.tmp 2], 58⟩ := by kernel_rfl
@[reducible] def fUpHear : KCode := by
  refine (?f : lowF Try.progTables Try.f14 [] [] = ?c → annF false [] [] ?c = ?k → KCode) ?h ?i
  case h => cbv; exact rfl
  case i => cbv; exact rfl
  exact fun _ _ => ?k
theorem fUpHear_low : lowFunc Try.prog 14 [] [] = some ⟨fUpHear.bare, [], 45⟩ := by kernel_rfl
@[reducible] def fUpTick : KCode := by
  refine (?f : lowF Try.progTables Try.f11 [] [] = ?c → annF false [] [] ?c = ?k → KCode) ?h ?i
  case h => cbv; exact rfl
  case i => cbv; exact rfl
  exact fun _ _ => ?k
theorem fUpTick_low : lowFunc Try.prog 11 [] [] = some ⟨fUpTick.bare, [], 18⟩ := by kernel_rfl
@[reducible] def fUpDone : KCode := by
  refine (?f : lowF Try.progTables Try.f16 [] [] = ?c → annF false [] [] ?c = ?k → KCode) ?h ?i
  case h => cbv; exact rfl
  case i => cbv; exact rfl
  exact fun _ _ => ?k
theorem fUpDone_low : lowFunc Try.prog 16 [] [] = some ⟨fUpDone.bare, [.tmp 2, .tmp 3], 15⟩ := by kernel_rfl
@[reducible] def fUpLives : KCode := by
  refine (?f : lowF Try.progTables Try.f6 [] [] = ?c → annF false [] [] ?c = ?k → KCode) ?h ?i
  case h => cbv; exact rfl
  case i => cbv; exact rfl
  exact fun _ _ => ?k
theorem fUpLives_low : lowFunc Try.prog 6 [] [] = some ⟨fUpLives.bare, [.tmp 0], 25⟩ := by kernel_rfl
@[reducible] def fUpNil : KCode := by
  refine (?f : lowF Try.progTables Try.f4 [] [] = ?c → annF false [] [] ?c = ?k → KCode) ?h ?i
  case h => cbv; exact rfl
  case i => cbv; exact rfl
  exact fun _ _ => ?k
theorem fUpNil_low : lowFunc Try.prog 4 [] [] = some ⟨fUpNil.bare, [.tmp 2], 36⟩ := by kernel_rfl
end Go.Proofs.Ytifgdmfapammfaa
namespace Go.Proofs.Ytifgdmfapammfaa
open Go Go.Fw
attribute [local irreducible] W WX WR WO WS WSr WH WHA WG WC FSpec
attribute [local simp] WS_at_map WSr_at_map loadWP splice_full Int.natCast_inj
set_option maxHeartbeats 2000000 in
theorem fSlEnc_spec (b : List UInt8) (md m : Md) (hb : b.length < 2 ^ 38) : FSpec Try.prog 48 [.list 1 m [.list 1 md (b.map bv)]] [] (.list 1 ⟨false, false, false⟩ ((encE b ++ [192]).map bv)) [] := by
  have hE := encE_len b
  refine FSpec.of_W fSlEnc_low (by simp) ?_
  simp only [initEnv]
  simp
  refine W_loop (X := Bool)
    (fun q => [(3, .slice 1 0 0 (bif q then encE b ++ [192] else []).length none), (8, .list 1 m [.list 1 md (b.map bv)]), (9, .int .i64 1), (10, .int .i64 (bif q then 1 else 0))]) (fun q => [some ⟨(bif q then encE b ++ [192] else []).map bv, 5, false⟩]) (fun q => bif q then 0 else 1) false retPost_le ?_ ?_
  · refine cut_trans (cut_ghost 3 1 5 (by simp) rfl rfl) (cut_w ?_)
    simp
  · intro q
    cases q
    · simp
      refine W_loop (X := { s : Nat × List UInt8 // s.1 ≤ b.length ∧ s.2 = encE (b.take s.1) })
        (fun s => [(3, .slice 1 0 0 s.1.2.length none), (8, .list 1 m [.list 1 md (b.map bv)]), (9, .int .i64 1), (10, .int .i64 0), (14, .list 1 md (b.map bv)), (15, .int .i64 b.length), (16, .int .i64 s.1.1)]) (fun s => [some ⟨s.1.2.map bv, 5, false⟩]) (fun s => b.length - s.1.1) ⟨(0, []), by simp, by simp [encE]⟩ retPost_le ?_ ?_
      · refine cut_w ?_
        simp
      · rintro ⟨⟨i, out⟩, hi, he⟩
        simp only at hi he ⊢
        have ho : out.length ≤ 2 * i := by rw [he]; have := encE_len (b.take i); simp at this; omega
        by_cases hlt : i < b.length
        · obtain ⟨c, r, hd⟩ : ∃ c r, b.drop i = c :: r := ⟨b[i], b.drop (i+1), by simp⟩
          have hc : b[i]? = some c := by rw [← Nat.add_zero i, ← List.getElem?_drop, hd]; rfl
          have hc' : b[i] = c := by rw [List.getElem?_eq_getElem hlt] at hc; exact Option.some.inj hc
          have ht : encE (b.take (i + 1)) = out ++ escF c := by rw [List.take_add_one, hc, he]; simp [encE]
          have w1 : IntKind.i64.wrap ((i : Int) + 1) = (i : Int) + 1 := wrap64s (by omega) (by omega)
          by_cases h1 : c = 192
          · subst h1
            simp [hlt, hc', w1, List.take_of_length_le]
            repeat (refine ⟨by omega, ?_⟩)
            refine ⟨⟨(i + 1, out ++ escF 192), by simp; omega, ht.symm⟩, by simp; omega, ?_⟩
            refine cut_rw [1] (by simp) rfl (by simp [escF]) ?_
            simp [escF]
          · by_cases h2 : c = 219
            · subst h2
              simp [hlt, hc', w1, List.take_of_length_le]
              repeat (refine ⟨by omega, ?_⟩)
              refine ⟨⟨(i + 1, out ++ escF 219), by simp; omega, ht.symm⟩, by simp; omega, ?_⟩
              refine cut_rw [1] (by simp) rfl (by simp [escF]) ?_
              simp [escF]
            · simp [hlt, hc', w1, h1, h2, List.take_of_length_le]
              repeat (refine ⟨by omega, ?_⟩)
              refine ⟨⟨(i + 1, out ++ escF c), by simp; omega, ht.symm⟩, by simp; omega, ?_⟩
              refine cut_rw [1] (by simp) rfl (by simp [escF, h1, h2]) ?_
              simp [escF, h1, h2]
        · rw [List.take_of_length_le (by omega)] at he
          simp [hlt, List.take_of_length_le, he]
          have w1 : IntKind.i64.wrap 1 = 1 := by decide
          refine ⟨⟨by omega, by omega⟩, true, by simp, ?_⟩
          refine cut_rw [1] (by simp) rfl (by simp [w1]) ?_
          simp
    · simp [List.take_of_length_le]
      exact fin_sl 0 rfl (by simp) (by simp [wkrL_refl]) (by simp)
end Go.Proofs.Ytifgdmfapammfaa
namespace Go.Proofs.Ytifgdmfapammfaa
open Go Go.Fw
attribute [local irreducible] W WX WR WO WS WSr WH WHA WG WC FSpec
def rqs1 (x : Req16) : List AV := [bv x.op, bv x.ty, .int .u32 x.size, .list 1 ⟨false, false, false⟩ (x.data.map bv)]
def rqs (l : List Req16) : List AV := l.flatMap rqs1
@[simp] theorem rqs_nil : rqs [] = [] := rfl
@[simp] theorem rqs_cons (x : Req16) (l : List Req16) : rqs (x :: l) = rqs1 x ++ rqs l := by simp [rqs]
@[simp] theorem rqs1_length (x : Req16) : (rqs1 x).length = 4 := rfl
@[simp] theorem rqs_length (l : List Req16) : (rqs l).length = l.length * 4 := by
  induction l with
  | nil => rfl
  | cons i l ih => simp [ih]; omega
@[simp] theorem rqs_drop (l : List Req16) (i : Nat) : (rqs l).drop (i * 4) = rqs (l.drop i) := by
  induction l generalizing i with
  | nil => simp
  | cons x l ih =>
    cases i with
    | zero => simp
    | succ i => rw [rqs_cons, List.drop_succ_cons, ← ih i, show (i + 1) * 4 = (rqs1 x).length + i * 4 by rw [rqs1_length]; omega, List.drop_length_add_append]
@[simp] theorem rqs_take (l : List Req16) (i : Nat) : (rqs l).take (i * 4) = rqs (l.take i) := by
  induction l generalizing i with
  | nil => simp
  | cons x l ih =>
    cases i with
    | zero => simp
    | succ i => rw [rqs_cons, List.take_succ_cons, rqs_cons, ← ih i, show (i + 1) * 4 = (rqs1 x).length + i * 4 by rw [rqs1_length]; omega, List.take_length_add_append]
@[simp] theorem ltL_rqs (n : Nat) (l : List Req16) : ltL n (rqs l) = true := ltL_flatMap _ fun x => by simp [rqs1, ltL, AV.ltI]
@[simp] theorem ids_rqs (q : Nat → Bool) (l : List Req16) : idsL q (rqs l) = true := idsL_flatMap _ fun x => by simp [rqs1, idsL, AV.ids, idsL_bv]
@[simp] theorem sub_rqs (s : Nat → Nat → Nat → Nat → Option Nat → AV) (p : Nat → Nat → AV) (l : List Req16) : subL s p (rqs l) = rqs l := subL_flatMap _ fun x => by simp [rqs1, subL, AV.sub, subL_bv]
@[simp] theorem cleanL_rqs (l : List Req16) : cleanL (rqs l) = true := cleanL_flatMap _ fun x => by simp [rqs1]
attribute [local simp] WS_at_map WSr_at_map loadWP splice_full Int.natCast_inj
def frmQ (l : List Req16) : List UInt8 := l.flatMap fun r => if (encQ r).2 = 0 then encE (encQ r).1 ++ [192] else []
theorem encQ_len (r : Req16) (h : r.data.length < 2 ^ 20) : (encQ r).1.length < 2 ^ 21 := by
  have h1 : (encB r).length ≤ 6 + r.data.length := by
    have h8 : (if r.op = 8 then r.data else []).length ≤ r.data.length := by split <;> simp
    simp only [encB, preB, leB, fS]
    generalize (if r.op = 8 then r.data else []) = z at *
    split <;> split <;> simp <;> (try split) <;> (try simp) <;> omega
  unfold encQ
  split
  · simp; omega
  · simp
theorem frmQ_len : ∀ (l : List Req16), (∀ r ∈ l, r.data.length < 2 ^ 20) → (frmQ l).length ≤ l.length * 2 ^ 23
  | [], _ => by simp [frmQ]
  | r :: l, h => by
    have ih := frmQ_len l fun x hx => h x (by simp [hx])
    have h1 := encQ_len r (h r (by simp))
    have h2 := encE_len (encQ r).1
    unfold frmQ at ih ⊢
    simp only [List.flatMap_cons, List.length_append, List.length_cons]
    split
    · simp only [List.length_append, List.length_singleton]; omega
    · simp only [List.length_nil]; omega
set_option maxHeartbeats 2000000 in
theorem fUpFrames_spec (l : List Req16) (m : Md) (hl : ∀ r ∈ l, r.size < 2 ^ 32 ∧ r.data.length < 2 ^ 20) (hn : l.length < 2 ^ 16) : FSpec Try.prog 23 [.list 4 m (rqs l)] [] (.list 1 ⟨false, false, false⟩ ((frmQ l).map bv)) [] := by
  refine FSpec.of_W fUpFrames_low (by simp) ?_
  simp only [initEnv]
  simp
  refine W_loop (X := { s : Nat × List UInt8 // s.1 ≤ l.length ∧ s.2 = frmQ (l.take s.1) })
    (fun s => [(3, .slice 1 0 0 s.1.2.length none), (8, .list 4 m (rqs l)), (9, .int .i64 l.length), (10, .int .i64 s.1.1)]) (fun s => [some ⟨s.1.2.map bv, 5, false⟩]) (fun s => l.length - s.1.1) ⟨(0, []), by simp, by simp [frmQ]⟩ retPost_le ?_ ?_
  · refine cut_trans (cut_ghost 3 1 5 (by simp) rfl rfl) (cut_w ?_)
    simp
  · rintro ⟨⟨i, out⟩, hi, he⟩
    simp only at hi he ⊢
    have ho := frmQ_len (l.take i) fun r hr => (hl r (List.mem_of_mem_take hr)).2
    rw [← he] at ho
    simp at ho
    by_cases hlt : i < l.length
    · obtain ⟨r, t, hd⟩ : ∃ r t, l.drop i = r :: t := ⟨l[i], l.drop (i+1), by simp⟩
      have hr : l[i]? = some r := by rw [← Nat.add_zero i, ← List.getElem?_drop, hd]; rfl
      have hrl := hl r (List.mem_of_getElem? hr)
      have ht : frmQ (l.take (i + 1)) = out ++ (if (encQ r).2 = 0 then encE (encQ r).1 ++ [192] else []) := by rw [List.take_add_one, hr, he]; simp [frmQ]
      have w1 : IntKind.i64.wrap ((i : Int) + 1) = (i : Int) + 1 := wrap64s (by omega) (by omega)
      have hE := fOpEnc_spec r ⟨false, false, false⟩ rfl hrl.1 (by omega)
      have hq := encQ_len r hrl.2
      have hq2 := encE_len (encQ r).1
      have hS := fSlEnc_spec (encQ r).1 ⟨false, false, false⟩ ⟨false, true, false⟩ (by omega)
      generalize encQ r = q at *
      simp [hlt, hd, rqs1]
      refine WO_callP [] rfl rfl hE (by simp) (by simp) ?_
      simp
      refine WC_dec (fun h => ?_) (fun h => ?_)
      · rw [if_pos h] at ht
        simp [List.take_of_length_le]
        refine WO_callP [] rfl rfl hS (by simp) (by simp) ?_
        simp [List.take_of_length_le]
        repeat (refine ⟨by omega, ?_⟩)
        refine ⟨⟨(i + 1, out ++ (encE q.1 ++ [192])), by simp; omega, by rw [ht]⟩, by simp; omega, ?_⟩
        refine cut_rw [2] (by simp) rfl (by simp [w1]) ?_
        simp
      · rw [if_neg h] at ht
        simp
        refine ⟨⟨(i + 1, out), by simp; omega, by rw [ht]; simp⟩, by simp; omega, ?_⟩
        exact cut_w (by simp [w1])
    · rw [List.take_of_length_le (by omega)] at he
      simp [hlt, List.take_of_length_le]
      rw [he]
      exact fin_sl 0 rfl (by simp) (wkrL_refl _) (by simp)
end Go.Proofs.Ytifgdmfapammfaa
namespace Go.Proofs.Ytifgdmfapammfaa
open Go Go.Fw
attribute [local irreducible] W WX WR WO WS WSr WH WHA WG WC FSpec
attribute [local simp] WS_at_map WSr_at_map loadWP splice_full Int.natCast_inj
structure UpS where
  init : List UInt8
  image : List UInt8
  phase : Int
  at_ : Int
  sum : Int
  sent : Bool
  waited : Int
  steps : Int
def upC (s : UpS) : List AV := [.ptr 0 0, .list 1 ⟨false, false, false⟩ (s.init.map bv), .list 1 ⟨false, false, false⟩ (s.image.map bv), .int .i64 s.phase, .int .i64 s.at_, .int .u32 s.sum, .bool s.sent, .int .i64 s.waited, .int .i64 s.steps]
def upH (s : UpS) (d : List UInt8 × Bool × Bool) : Heap := dH d.1 70 d.2.1 d.2.2 ++ [some ⟨upC s, 71, true⟩]
def upOk (init image : List UInt8) : Prop := 0 < init.length ∧ init.length ≤ 128 ∧ 0 < image.length ∧ image.length ≤ 4096
theorem fUpNew_spec (init image : List UInt8) (m1 m2 : Md) (h : upOk init image) : FSpec Try.prog 7 [.list 1 m1 (init.map bv), .list 1 m2 (image.map bv)] [] (.tuple [.ptr 2 0, .int .i64 0]) (upH ⟨init, image, 0, 0, 0, false, 0, 0⟩ ([], false, false)) := by
  obtain ⟨h1, h2, h3, h4⟩ := h
  have hD := fDsNew_spec 70 (by decide) (by decide)
  have hc1 := fCloneB_spec init m1 (by omega)
  have hc2 := fCloneB_spec image m2 (by omega)
  refine FSpec.of_W fUpNew_low (by simp) ?_
  simp only [initEnv]
  have e1 : ¬ init = [] := by rintro rfl; simp at h1
  have e3 : ¬ image = [] := by rintro rfl; simp at h3
  simp [e1, e3, show ¬ 128 < (init.length : Int) by omega, show ¬ 4096 < (image.length : Int) by omega]
  refine WO_call rfl hD (by simp) ?_
  simp [dH]
  refine WO_callP [] rfl rfl hc1 (by simp) (by simp) ?_
  simp
  refine WO_callP [] rfl rfl hc2 (by simp) (by simp) ?_
  simp
  exact fin_W (by simp [upH, dH, upC])
theorem frm_greet : frmQ [⟨2, 0, 0, []⟩, ⟨6, 1, 0, []⟩] = [2, 0, 0, 192, 6, 1, 192] := by decide +kernel
theorem fUpSend_nil : FSpec Try.prog 8 [.nil] [] (.list 1 ⟨true, true, false⟩ []) [] := by
  refine FSpec.of_W fUpSend_low (by simp) ?_
  simp only [initEnv]
  simp
  exact fin_W (by simp)
theorem fUpSend_sent (s : UpS) (d : List UInt8 × Bool × Bool) (h : s.sent = true) : FSpec Try.prog 8 [.ptr 2 0] (upH s d) (.list 1 ⟨true, true, false⟩ []) (upH s d) := by
  refine FSpec.of_W fUpSend_low (by simp) ?_
  simp only [initEnv]
  simp [upH, dH, upC, h]
  exact fin_W (by simp)
theorem fUpSend_greet (s : UpS) (d : List UInt8 × Bool × Bool) (h : s.sent = false) (hp : s.phase = 0) (hs : 0 ≤ s.steps ∧ s.steps < 2 ^ 60) : FSpec Try.prog 8 [.ptr 2 0] (upH s d) (.list 1 ⟨false, false, false⟩ (([2, 0, 0, 192, 6, 1, 192] : List UInt8).map bv)) (upH { s with sent := true, steps := s.steps + 1 } d) := by
  have hF := fUpFrames_spec [⟨2, 0, 0, []⟩, ⟨6, 1, 0, []⟩] ⟨false, true, false⟩ (by simp) (by simp)
  rw [frm_greet] at hF
  have w : IntKind.i64.wrap (s.steps + 1) = s.steps + 1 := wrap64s (by omega) (by omega)
  refine FSpec.of_W fUpSend_low (by simp) ?_
  simp only [initEnv]
  simp [upH, dH, upC, h, hp, w]
  refine WO_callP [] rfl rfl (FSpec.wk (by simp [rqs1]) hF) (by simp) (by simp) ?_
  simp
  exact fin_W (by simp)
theorem fUpTick_nil : FSpec Try.prog 11 [.nil] [] (.tuple []) [] := by
  refine FSpec.of_W fUpTick_low (by simp) ?_
  simp only [initEnv]
  simp
  exact fin_W (by simp)
theorem fUpDone_nil : FSpec Try.prog 16 [.nil] [] (.tuple [.bool false, .int .i64 0]) [] := by
  refine FSpec.of_W fUpDone_low (by simp) ?_
  simp only [initEnv]
  simp
  exact fin_W (by simp)
end Go.Proofs.Ytifgdmfapammfaa
namespace Go.Proofs.Ytifgdmfapammfaa
open Go Go.Fw
attribute [local irreducible] W WX WR WO WS WSr WH WHA WG WC FSpec
attribute [local simp] WS_at_map WSr_at_map loadWP splice_full Int.natCast_inj
theorem fUpHear_nil (b : List UInt8) (md : Md) (hb : b.length < 2 ^ 40) : FSpec Try.prog 14 [.nil, .list 1 md (b.map bv)] [] (.tuple []) [] := by
  refine FSpec.of_W fUpHear_low (by simp) ?_
  simp only [initEnv]
  simp
  refine W_loop (X := Unit) (fun _ => [(0, .nil), (10, .list 1 md (b.map bv)), (11, .int .i64 b.length), (12, .int .i64 0)]) (fun _ => []) (fun _ => 0) () retPost_le ?_ ?_
  · exact cut_w (by simp)
  · intro _
    simp
    rcases b with _ | ⟨c, b⟩
    · simp
      exact fin_W (by simp)
    · simp [show (0 : Int) < (b.length : Int) + 1 by omega]
      exact fin_W (by simp)
theorem fUpLives_spec : FSpec Try.prog 6 [] [] (.bool true) [] := by
  have h1 := fUpNew_spec [1] [2] ⟨false, true, false⟩ ⟨false, true, false⟩ ⟨by decide, by decide, by decide, by decide⟩
  have h2 := fUpSend_greet ⟨[1], [2], 0, 0, 0, false, 0, 0⟩ ([], false, false) rfl rfl (by decide)
  have h3 := fUpSend_sent ⟨[1], [2], 0, 0, 0, true, 0, 1⟩ ([], false, false) rfl
  refine FSpec.of_W fUpLives_low (by simp) ?_
  simp only [initEnv]
  simp
  refine WO_call rfl h1 (by simp) ?_
  simp
  refine WO_call rfl h2 (by simp) ?_
  simp [toBytes]
  refine WO_call rfl h3 (by simp) ?_
  simp
  exact fin_W (by simp)
theorem fUploaderNil_spec (b : List UInt8) (md : Md) (hb : b.length < 2 ^ 47) : FSpec Try.prog 4 [.list 1 md (b.map bv)] [] (.bool true) [] := by
  have hL := fUpLives_spec
  refine FSpec.of_W fUpNil_low (by simp) ?_
  simp only [initEnv]
  simp
  refine WO_callP [] rfl rfl hL (by simp) (by simp) ?_
  by_cases hl : 200 < (b.length : Int)
  · simp [hl]
    refine WO_callP [] rfl rfl hL (by simp) (by simp) ?_
    simp
    exact fin_W (by simp)
  simp [hl]
  refine WO_callP [] rfl rfl (fUpHear_nil b md (by omega)) (by simp) (by simp) ?_
  simp
  refine WO_callP [] rfl rfl fUpTick_nil (by simp) (by simp) ?_
  simp
  refine WO_callP [] rfl rfl fUpDone_nil (by simp) (by simp) ?_
  simp
  refine WO_callP [] rfl rfl fUpSend_nil (by simp) (by simp) ?_
  simp
  exact fin_W (by simp)
set_option maxRecDepth 100000 in
theorem fUploaderNil_law : ∀ args, AllFit Try.prog 8 Try.f4.params.toList args → FSpec Try.prog 4 args [] (.bool true) [] := by
  intro args has
  rw [show Try.f4.params.toList = [22] from by rw [Try.params4]] at has
  obtain ⟨a, as1, rfl, h1, has⟩ := all_cons has
  cases all_nil has
  obtain ⟨n1, f1, x, rfl, hx⟩ := arg_bytes Try.underlying22 Try.underlying5 (by kernel_rfl) (by kernel_rfl) h1
  exact fUploaderNil_spec x _ hx
end Go.Proofs.Ytifgdmfapammfaa
