/-
  Signatures: the chapter's example.
-/
import Derived.Test.YthgibibeoapfbaaeW3
set_option linter.unusedSimpArgs false
set_option linter.unnecessarySimpa false
set_option linter.unusedVariables false
set_option linter.unusedSectionVars false
namespace Go.Proofs.Ythgibibeoapfbaa
open Go Go.Fw
attribute [local simp] bv cleanL_bv toBytes_bv ltL_bv atF_drop WS_at_bytes W_nil W_skip W_seq W_reg W_draw W_drawP W_kill W_keep W_block W_blk W_exit W_ret WX_blk WX_c WX_lp WX_li W_li W_condT W_condF W_cond WC_true WC_false
  WR_nil WR_cons WR_o1 WR_o2 o1_chk o2_chk WR_grd WG_tt WG_ff WG_tf WG_ft WG_none WS_some WS_ok1 WSr_no WSr_some WSr_ok1 WSr_at_bytes WH_some WHA_some chkF_cons chkF_nil chkE_some chkE_ok1 chkE_at evF WO_mv WO_pick WO_bin WO_isNil WO_eqA WO_un WO_convI WO_toStr WO_ofStr WO_build WO_buildF WO_load WO_nilCheck WO_fieldAddr WO_field WO_idxA WO_idxS
  WO_ixA WO_slS WO_slA WO_len WO_lenK WO_appF WO_extract WO_s2a WO_iface WO_min WO_max WO_alloc WO_box WO_buildO WO_store WO_appO WO_copy WO_makeS WO_allocA WO_makeA WO_cvt cvtF_slice WO_look lookF_map alAF mkAF WO_func bind1_v bind2_v bindH_v bindH2_v bindS_v okO_v pickO_t pickO_f
  Env.keep Env.get Env.set Env.del Env.dels Env.setO Env.opd Env.opds Env.opdO Env.parts intF aggF fillA splice cleanL AV.clean bndF fldF_one fldF_many toStrF boxF buildOF
  loadF_rptr loadF_rptrN atF_zero atF_succ blk_cons_zero blk_cons_succ loadF_p loadF_pN atB_some atBN_some retPost resL one
  okc_bool cells_bool notStr_bool okc_int cells_int notStr_int okc_str cells_str notStr_str okc_nil cells_nil notStr_nil okc_ptr cells_ptr notStr_ptr okc_rptr cells_rptr notStr_rptr okc_slice cells_slice notStr_slice 
  okc_list cells_list notStr_list okc_func cells_func notStr_func okc_nilFunc cells_nilFunc notStr_nilFunc okc_iface cells_iface notStr_iface okc_nilIface cells_nilIface notStr_nilIface okc_agg cells_agg notStr_agg 
  okc_tuple cells_tuple notStr_tuple lenF_slice lenF_list lenF_str faF_ptr faF_rptr idxSF_slice idxSF_list idxAF_ptr idxAF_rptr ixAF_many ixAF_one convF_int unF_neg unF_xor unF_not nilF_0nil nilF_0ptr nilF_0rptr nilF_1 
  nilF_2nil nilF_2f nilF_3nil nilF_3f binF_int binF_beq binF_bne binF_sadd binF_seq binF_sne sliceCells_list sliceCells_str sliceCells_slice cutC_some szAV_list szAV_str szAV_slice oneSl_list oneSl_slice slSF_sliceS 
  slSF_sliceN slSF_list slAF_rptr slAF_ptr appFF_list appOF_list appOF_sliceN appOF_sliceS storeF_ptr copyF_slice extF_tuple s2aF_slice s2aF_list nchkF_ptr nchkF_rptr nchkF_f mmF_int ofStrF_str mkSF_int eqAF_agg
attribute [local irreducible] W WX WR WO WS WSr WH WHA WG WC FSpec
attribute [local simp] lendAll
attribute [local congr] W_cg WR_cg WO_cg WS_cg WSr_cg WH_cg WHA_cg WG_cg WC_cg WX_cg
attribute [local simp] Env.has AV.wkr wkrL AV.wkr_refl wkrL_refl AV.ltI ltL leHW hasW Env.lt AV.ids idsL AV.sub subL AV.ren AV.frz frzS frzP frzE frzL Heap.frz Blk.frz Blk.ren renL rnS rnP hasR leR idsL_bv subL_bv
attribute [local simp] cleanL_take cleanL_drop ltL_take ltL_drop idsL_take idsL_drop subL_take subL_drop cleanL_append ltL_append idsL_append subL_append
attribute [local simp] renE mvN mvH
attribute [local simp] fwd backH putL bwd
attribute [local simp] u8i u8e List.idxOf_cons
attribute [local simp] hasRW leRW
attribute [local simp] WS_at_map WSr_at_map loadWP splice_full Int.natCast_inj
def keyL : List UInt8 := [215, 90, 152, 1, 130, 177, 10, 183, 213, 75, 254, 211, 201, 100, 7, 58, 14, 225, 114, 243, 218, 166, 35, 37, 175, 2, 26, 104, 247, 7, 81, 26]
def sigL : List UInt8 := [229, 86, 67, 0, 195, 96, 172, 114, 144, 134, 226, 204, 128, 110, 130, 138, 132, 135, 127, 30, 184, 229, 217, 116, 216, 115, 224, 101, 34, 73, 1, 85, 95, 184, 130, 21, 144, 163, 59, 172, 198, 30, 57, 112, 28, 249, 180, 107, 210, 91, 245, 240, 89, 91, 190, 36, 101, 81, 65, 67, 142, 122, 16, 11]
def badL : List UInt8 := [229, 86, 67, 0, 195, 96, 172, 114, 144, 134, 226, 204, 128, 110, 130, 138, 132, 135, 127, 30, 184, 229, 217, 116, 216, 115, 224, 101, 34, 73, 1, 85, 95, 184, 130, 21, 144, 163, 59, 172, 194, 30, 57, 112, 28, 249, 180, 107, 210, 91, 245, 240, 89, 91, 190, 36, 101, 81, 65, 67, 142, 122, 16, 11]
def kAx : Nat := 38815646466658113194383306759739515082307681141926459231621296960732224964046
def kAy : Nat := 11903303657706407974989296177215005343713679411332034699907763981919547054807
def kRx : Nat := 44370630452101398467924320556439323233869374150616132215183787387252341590058
def kRy : Nat := 38448863731492799660668882834560725606410712239157980760146247592118262650597
def kN1 : Nat := 5004556735901913393272427758925840403246877222315506387332009764265656498271
def kN2 : Nat := 5004556735901913393272427758925840403246877222315506387258222787970818291807
def kH1 : Nat := 1958233733501237659471134851339390337284068724042047466985993338226439154310
def kH2 : Nat := 5739917060239399386628100714654249777605879736788356462454918389142766655041
def mulK {α : Type} (n bx by' bt : Nat) : Nat → Nat → Nat → Nat → Nat → (Nat → Nat → Nat → Nat → α) → α
  | 0, x, y, z, t, k => k x y z t
  | i + 1, x, y, z, t, k => sumK x y z t x y z t fun x y z t => bif Nat.beq (n / 2 ^ i % 2) 1 then sumK x y z t bx by' 1 bt fun x y z t => mulK n bx by' bt i x y z t k else mulK n bx by' bt i x y z t k
theorem mulK_eq {α : Type} {Q : Cv.EP Fp} {P : Cv.Pt FP} (hQ : Cv.Rep Q P) (hz : fv Q.z = 1) (n : Nat) : ∀ (i : Nat) (p : Cv.EP Fp), Cv.Rep p (Cv.smul (n / 2 ^ i) P) → ∃ q, Cv.Rep q (Cv.smul n P) ∧ ∀ k : Nat → Nat → Nat → Nat → α, mulK n (fv Q.x) (fv Q.y) (fv Q.t) i (fv p.x) (fv p.y) (fv p.z) (fv p.t) k = k (fv q.x) (fv q.y) (fv q.z) (fv q.t)
  | 0, p, hp => by
    rw [Nat.pow_zero, Nat.div_one] at hp
    exact ⟨p, hp, fun _ => rfl⟩
  | i + 1, p, hp => by
    have hd := Cv.sum_rep hp hp
    rw [← Cv.smul_add] at hd
    have hs : n / 2 ^ i = n / 2 ^ (i + 1) + n / 2 ^ (i + 1) + n / 2 ^ i % 2 := by
      rw [Nat.pow_succ, ← Nat.div_div_eq_div_mul]; omega
    by_cases c : n / 2 ^ i % 2 = 1
    · have hd2 := Cv.sum_rep hd hQ
      obtain ⟨q, h1, h2⟩ := mulK_eq (α := α) hQ hz n i (Cv.sumE (toF dP) (Cv.sumE (toF dP) p p) Q) (by rw [hs, c]; exact hd2)
      refine ⟨q, h1, fun k => ?_⟩
      unfold mulK
      rw [sumK_eq, c, Nat.beq_refl, cond_true]
      have h3 := sumK_eq (Cv.sumE (toF dP) p p) Q (fun x y z t => mulK n (fv Q.x) (fv Q.y) (fv Q.t) i x y z t k)
      rw [hz] at h3
      rw [h3]
      exact h2 k
    · have c0 : n / 2 ^ i % 2 = 0 := by omega
      obtain ⟨q, h1, h2⟩ := mulK_eq (α := α) hQ hz n i (Cv.sumE (toF dP) p p) (by rw [hs, c0, Nat.add_zero]; exact hd)
      refine ⟨q, h1, fun k => ?_⟩
      unfold mulK
      rw [sumK_eq, c0, show Nat.beq 0 1 = false from rfl, cond_false]
      exact h2 k
def chkN (n bx by' bt h ax ay at' rx ry rt : Nat) : Bool :=
  mulK n bx by' bt 253 0 1 1 0 fun x1 y1 z1 _ => mulK h ax ay at' 253 0 1 1 0 fun x2 y2 z2 t2 => sumK rx ry 1 rt x2 y2 z2 t2 fun x3 y3 z3 _ => Nat.beq (mlp x1 z3) (mlp x3 z1) && Nat.beq (mlp y1 z3) (mlp y3 z1)
theorem beq_fv (a b c d : Fp) : Nat.beq (mlp (fv a) (fv b)) (mlp (fv c) (fv d)) = decide (a * b = c * d) := by
  unfold mlp
  rw [← fv_mul, ← fv_mul]
  by_cases h : a * b = c * d
  · rw [h, Nat.beq_refl, decide_eq_true rfl]
  · rw [decide_eq_false h]
    cases q : Nat.beq (fv (a * b)) (fv (c * d)) with
    | false => rfl
    | true => exact absurd (fv_inj.1 (Nat.eq_of_beq_eq_true q)) h
theorem mulK_none {α : Type} {P : Cv.Pt FP} {n : Nat} (hn : n < Lq) : ∃ q, Cv.Rep q (Cv.smul n P) ∧ ∀ k : Nat → Nat → Nat → Nat → α, mulK n (fv P.x) (fv P.y) (fv (P.x * P.y)) 253 0 1 1 0 k = k (fv q.x) (fv q.y) (fv q.z) (fv q.t) := by
  have e0 : fv noneE.x = 0 := fv_zero
  have e1 : fv noneE.y = 1 := fv_one
  have e2 : fv noneE.z = 1 := fv_one
  have e3 : fv noneE.t = 0 := by show fv (0 * 1 : Fp) = 0; rw [fv_mul, fv_zero, Nat.zero_mul, Nat.zero_mod]
  obtain ⟨q, h1, h2⟩ := mulK_eq (α := α) (rep_at P) fv_one n 253 noneE (by rw [Nat.div_eq_of_lt (Nat.lt_trans hn Lq_lt)]; exact rep_none)
  rw [e0, e1, e2, e3] at h2
  exact ⟨q, h1, h2⟩
theorem ver_num {key sig msg : List UInt8} {ax ay rx ry n h : Nat} (l1 : ax < p25) (l2 : ay < p25) (l3 : rx < p25) (l4 : ry < p25) (h1 : decE (byN key) = some (toF ax, toF ay)) (h2 : decE (byN (sig.take 32)) = some (toF rx, toF ry)) (h3 : n < Lq) (hn : byN (sig.drop 32) = n) (hh : hashN (sig.take 32 ++ (key ++ msg)) = h) :
    verP key sig msg = chkN n baseX baseY (baseX * baseY % p25) h ax ay (ax * ay % p25) rx ry (rx * ry % p25) := by
  have hhl : h < Lq := by rw [← hh]; exact Nat.mod_lt _ (by decide)
  have b3 : n < 2 ^ 256 := Nat.lt_trans h3 (Nat.lt_trans Lq_lt (by decide))
  have b4 : h < 2 ^ 256 := Nat.lt_trans hhl (Nat.lt_trans Lq_lt (by decide))
  unfold verP
  rw [h1]; simp only; rw [h2]; simp only; rw [hn, hh, if_pos h3]
  obtain ⟨A, hA⟩ : ∃ A : Cv.Pt FP, A = ⟨toF ax, toF ay, (decE_on h1).1⟩ := ⟨_, rfl⟩
  obtain ⟨R, hR⟩ : ∃ R : Cv.Pt FP, R = ⟨toF rx, toF ry, (decE_on h2).1⟩ := ⟨_, rfl⟩
  have rA : Cv.Rep (atE (toF ax) (toF ay)) A := by rw [hA]; exact rep_at (⟨toF ax, toF ay, (decE_on h1).1⟩ : Cv.Pt FP)
  have rR : Cv.Rep (atE (toF rx) (toF ry)) R := by rw [hR]; exact rep_at (⟨toF rx, toF ry, (decE_on h2).1⟩ : Cv.Pt FP)
  obtain ⟨q1, r1, e1⟩ := mulK_none (α := Bool) (P := P0) h3
  obtain ⟨q2, r2, e2⟩ := mulK_none (α := Bool) (P := A) hhl
  have r3 := Cv.sum_rep rR r2
  have x1 : fv P0.x = baseX := toF_lt baseX_lt
  have x2 : fv P0.y = baseY := toF_lt baseY_lt
  have x3 : fv (P0.x * P0.y) = baseX * baseY % p25 := by rw [fv_mul, x1, x2]
  have y1 : fv A.x = ax := by rw [hA]; exact toF_lt l1
  have y2 : fv A.y = ay := by rw [hA]; exact toF_lt l2
  have y3 : fv (A.x * A.y) = ax * ay % p25 := by rw [fv_mul, y1, y2]
  rw [x1, x2, x3] at e1
  rw [y1, y2, y3] at e2
  rw [bool_eq (sameE_rep (pB_rep b3) (add2_rep rR (times256 rA b4))) (sameE_rep r1 r3)]
  unfold chkN
  rw [e1, e2]
  have hs := sumK_eq (atE (toF rx) (toF ry)) q2 (fun x3 y3 z3 _ => Nat.beq (mlp (fv q1.x) z3) (mlp x3 (fv q1.z)) && Nat.beq (mlp (fv q1.y) z3) (mlp y3 (fv q1.z)))
  have z1 : fv (atE (toF rx) (toF ry)).x = rx := toF_lt l3
  have z2 : fv (atE (toF rx) (toF ry)).y = ry := toF_lt l4
  have z3 : fv (atE (toF rx) (toF ry)).z = 1 := fv_one
  have z4' : fv (atE (toF rx) (toF ry)).t = rx * ry % p25 := by
    show fv (toF rx * toF ry) = _
    rw [fv_mul, toF_lt l3, toF_lt l4]
  rw [z1, z2, z3, z4'] at hs
  rw [hs, beq_fv, beq_fv]
  unfold sameE
  rw [whole_rep r1]
  have w : wholeE (Cv.sumE FP.d (atE (toF rx) (toF ry)) q2) = Cv.sumE (toF dP) (atE (toF rx) (toF ry)) q2 := whole_rep r3
  rw [w]
theorem kAx_lt : kAx < p25 := by decide +kernel
theorem kAy_lt : kAy < p25 := by decide +kernel
theorem kRx_lt : kRx < p25 := by decide +kernel
theorem kRy_lt : kRy < p25 := by decide +kernel
theorem key_on : Cv.E (toF dP) (toF kAx) (toF kAy) = 0 := by
  have h : toF kAy * toF kAy = toF kAx * toF kAx + 1 + toF dP * toF kAx * toF kAx * toF kAy * toF kAy := by
    apply fv_inj.1
    simp only [fv_add, fv_mul, toF_lt kAx_lt, toF_lt kAy_lt, toF_lt dP_lt, fv_one]
    decide +kernel
  exact on_sum_gen _ _ _ h
theorem sig_on : Cv.E (toF dP) (toF kRx) (toF kRy) = 0 := by
  have h : toF kRy * toF kRy = toF kRx * toF kRx + 1 + toF dP * toF kRx * toF kRx * toF kRy * toF kRy := by
    apply fv_inj.1
    simp only [fv_add, fv_mul, toF_lt kRx_lt, toF_lt kRy_lt, toF_lt dP_lt, fv_one]
    decide +kernel
  exact on_sum_gen _ _ _ h
theorem key_dec : decE (byN keyL) = some (toF kAx, toF kAy) := by
  refine decE_of key_on ?_ ?_
  · rw [toF_lt kAy_lt]; decide +kernel
  · rw [toF_lt kAx_lt]; decide +kernel
theorem sig_dec : decE (byN (sigL.take 32)) = some (toF kRx, toF kRy) := by
  refine decE_of sig_on ?_ ?_
  · rw [toF_lt kRy_lt]; decide +kernel
  · rw [toF_lt kRx_lt]; decide +kernel
theorem hash1 : hashN (sigL.take 32 ++ (keyL ++ [])) = kH1 := by kernel_rfl
theorem hash2 : hashN (sigL.take 32 ++ (keyL ++ [0])) = kH2 := by kernel_rfl
theorem ver1 : verP keyL sigL [] = true := by
  rw [ver_num kAx_lt kAy_lt kRx_lt kRy_lt key_dec sig_dec (n := kN1) (h := kH1) (by decide +kernel) (by decide +kernel) hash1]
  decide +kernel
theorem ver2 : verP keyL badL [] = false := by
  rw [ver_num kAx_lt kAy_lt kRx_lt kRy_lt key_dec sig_dec (sig := badL) (n := kN2) (h := kH1) (by decide +kernel) (by decide +kernel) hash1]
  decide +kernel
theorem ver3 : verP keyL sigL [0] = false := by
  rw [ver_num kAx_lt kAy_lt kRx_lt kRy_lt key_dec sig_dec (n := kN1) (h := kH2) (by decide +kernel) (by decide +kernel) hash2]
  decide +kernel
end Go.Proofs.Ythgibibeoapfbaa
