/-
  Signatures: the document's Verify.
-/
import Derived.Test.YthgibibeoapfbaaeW2
set_option linter.unusedSimpArgs false
set_option linter.unnecessarySimpa false
set_option linter.unusedVariables false
set_option linter.unusedSectionVars false
namespace Go.Proofs.Ythgibibeoapfbaa
open Go Go.Fw
attribute [local simp] bv cleanL_bv toBytes_bv ltL_bv atF_drop WS_at_bytes W_nil W_skip W_seq W_reg W_draw W_drawP W_kill W_keep W_block W_blk W_exit W_ret WX_blk WX_c WX_lp WX_li W_li W_condT W_condF W_cond WC_true WC_false
  WR_nil WR_cons WR_o1 WR_o2 o1_chk o2_chk WR_grd WG_tt WG_ff WG_tf WG_ft WG_none WS_some WS_ok1 WSr_no WSr_some WSr_ok1 WSr_at_bytes WH_some WHA_some chkF_cons chkF_nil chkE_some chkE_ok1 chkE_at evF WO_mv WO_pick WO_bin WO_isNil WO_eqA WO_un WO_convI WO_toStr WO_ofStr WO_build WO_buildF WO_load WO_nilCheck WO_fieldAddr WO_field WO_idxA WO_idxS
  WO_ixA WO_slS WO_slA WO_len WO_lenK WO_appF WO_extract WO_s2a WO_iface WO_min WO_max WO_alloc WO_box WO_buildO WO_store WO_appO WO_copy WO_makeS WO_allocA WO_makeA WO_cvt cvtF_slice WO_look lookF_map alAF mkAF WO_func bind1_v bind2_v bindH_v bindH2_v bindS_v okO_v pickO_t pickO_f
  Env.keep Env.get Env.set Env.del Env.dels Env.setO Env.opd Env.opds Env.opdO Env.parts intF aggF fillA splice cleanL AV.clean bndF fldF_one fldF_many toStrF boxF buildOF
  loadF_rptr loadF_rptrN atF_zero atF_succ blk_cons_zero blk_cons_succ loadF_p loadF_pN atB_some atBN_some retPost resL one
  okc_bool cells_bool notStr_bool okc_int cells_int notStr_int okc_str cells_str notStr_str okc_nil cells_nil notStr_nil okc_ptr cells_ptr notStr_ptr okc_rptr cells_rptr notStr_rptr okc_slice cells_slice notStr_slice 
  okc_list cells_list notStr_list okc_func cells_func notStr_func okc_nilFunc cells_nilFunc notStr_nilFunc okc_iface cells_iface notStr_iface okc_nilIface cells_nilIface notStr_nilIface okc_agg cells_agg notStr_agg 
  okc_tuple cells_tuple notStr_tuple lenF_slice lenF_list lenF_str faF_ptr faF_rptr idxSF_slice idxSF_list idxAF_ptr idxAF_rptr ixAF_many ixAF_one convF_int unF_neg unF_xor unF_not nilF_0nil nilF_0ptr nilF_0rptr nilF_1 
  nilF_2nil nilF_2f nilF_3nil nilF_3f binF_int binF_beq binF_bne binF_sadd binF_seq binF_sne sliceCells_list sliceCells_str sliceCells_slice cutC_some szAV_list szAV_str szAV_slice oneSl_list oneSl_slice slSF_sliceS 
  slSF_sliceN slSF_list slAF_rptr slAF_ptr appFF_list appOF_list appOF_sliceN appOF_sliceS storeF_ptr copyF_slice extF_tuple s2aF_slice s2aF_list nchkF_ptr nchkF_rptr nchkF_f mmF_int ofStrF_str mkSF_int eqAF_agg
attribute [local irreducible] W WX WR WO WS WSr WH WHA WG WC FSpec
attribute [local simp] lendAll
attribute [local congr] W_cg WR_cg WO_cg WS_cg WSr_cg WH_cg WHA_cg WG_cg WC_cg WX_cg
attribute [local simp] Env.has AV.wkr wkrL AV.wkr_refl wkrL_refl AV.ltI ltL leHW hasW Env.lt AV.ids idsL AV.sub subL AV.ren AV.frz frzS frzP frzE frzL Heap.frz Blk.frz Blk.ren renL rnS rnP hasR leR idsL_bv subL_bv
attribute [local simp] cleanL_take cleanL_drop ltL_take ltL_drop idsL_take idsL_drop subL_take subL_drop cleanL_append ltL_append idsL_append subL_append
attribute [local simp] renE mvN mvH
attribute [local simp] fwd backH putL bwd
attribute [local simp] u8i u8e List.idxOf_cons
attribute [local simp] hasRW leRW
attribute [local simp] WS_at_map WSr_at_map WS_at_q4 WSr_at_q4 WS_at_arr WSr_at_arr loadWP splice_full Int.natCast_inj arr_zero32 fill_zero arr_set upd_fill q17_d q17_t q17_t0 q17_d34 q17_t51 q17_s0 q17_s17 q17_s34 hk17
def sbN (n k : Nat) : Nat → Nat := fun j => wd n j / 256 ^ (k - 8 * j)
theorem sbN_top (n : Nat) : arr .u64 4 (sbN n 32) = q4 0 := by
  rw [q4_arr]
  refine arr_ext fun j hj => ?_
  have e : 256 ^ 8 ≤ 256 ^ (32 - 8 * j) := Nat.pow_le_pow_right (by decide) (by omega)
  have h := wd_lt n j
  simp only [sbN]
  rw [Nat.div_eq_of_lt (Nat.lt_of_lt_of_le h e)]
  simp [wd]
theorem sbN_zero (n : Nat) : arr .u64 4 (sbN n 0) = q4 n := by
  rw [q4_arr]
  refine arr_ext fun j hj => ?_
  simp [sbN]
theorem sbN_step (n k : Nat) : upd (sbN n (k + 1)) (k / 8) (wd n (k / 8) / 256 ^ (k % 8)) = sbN n k := by
  funext j
  simp only [upd, sbN]
  by_cases h : j = k / 8
  · subst h
    rw [if_pos rfl]; congr 2; omega
  · rw [if_neg h]
    by_cases h2 : k < 8 * j
    · rw [show k + 1 - 8 * j = 0 by omega, show k - 8 * j = 0 by omega]
    · have hl := wd_lt n j
      have e1 : 256 ^ 8 ≤ 256 ^ (k - 8 * j) := Nat.pow_le_pow_right (by decide) (by omega)
      have e2 : 256 ^ 8 ≤ 256 ^ (k + 1 - 8 * j) := Nat.pow_le_pow_right (by decide) (by omega)
      rw [Nat.div_eq_of_lt (Nat.lt_of_lt_of_le hl e1), Nat.div_eq_of_lt (Nat.lt_of_lt_of_le hl e2)]
theorem sbN_add (l : List UInt8) (k : Nat) (h : k < l.length) : IntKind.u64.wrap (IntKind.u64.wrap ((sbN (byN l) (k + 1) (k / 8) : Nat) * 256) + (l[k].toNat : Nat)) = (wd (byN l) (k / 8) / 256 ^ (k % 8) : Nat) := by
  have hx := UInt8.toNat_lt l[k]
  have hw := wd_lt (byN l) (k / 8)
  have e0 : sbN (byN l) (k + 1) (k / 8) = wd (byN l) (k / 8) / 256 ^ (k % 8) / 256 := by
    simp only [sbN]
    rw [show k + 1 - 8 * (k / 8) = k % 8 + 1 by omega, Nat.pow_succ, Nat.div_div_eq_div_mul]
  have e1 : wd (byN l) (k / 8) / 256 ^ (k % 8) % 256 = l[k].toNat := by
    rw [← byN_byte l k h, ← wd_byte (byN l) k, show (256 : Nat) ^ (k % 8) = 2 ^ (8 * (k % 8)) by rw [Nat.pow_mul]]
  have e2 : wd (byN l) (k / 8) / 256 ^ (k % 8) < 2 ^ 64 := Nat.lt_of_le_of_lt (Nat.div_le_self _ _) hw
  rw [e0]
  generalize wd (byN l) (k / 8) / 256 ^ (k % 8) = z at *
  rw [show (((z / 256 : Nat) : Int) * 256) = ((z / 256 * 256 : Nat) : Int) by simp, wrapu64, Nat.mod_eq_of_lt (by omega), show (((z / 256 * 256 : Nat) : Int) + (l[k].toNat : Nat)) = ((z / 256 * 256 + l[k].toNat : Nat) : Int) by simp, wrapu64, Nat.mod_eq_of_lt (by omega)]
  congr 1; omega
theorem byteAt (l : List UInt8) (m o : Nat) (h : l.length = o + m) : arr .u8 m (fun k => (l.getD (o + k) 0).toNat) = (l.drop o).map bv := by
  refine List.ext_getElem (by simp [h]) fun k h1 h2 => ?_
  simp only [arr_length] at h1
  have : o + k < l.length := by omega
  simp [arr_getElem, bv, this]
theorem dec_abs (l : List UInt8) (hl : l.length = 32) : ∃ C : List AV, (C.length = 51 ∧ C.take 51 = C ∧ (idsL (fun _ => false) C = true ∧ cleanL C = true) ∧ ∀ n, ltL n C = true) ∧ FSpec Try.prog 25 [.agg (l.map bv)] [] (.tuple [.agg C, .bool (decE (byN l)).isSome]) [] ∧ ∀ x y, decE (byN l) = some (x, y) → C = rpC ⟨x, y, 1⟩ := by
  have h := fRCvDecode_spec l hl
  generalize decE (byN l) = D at *
  obtain _ | ⟨x, y⟩ := D
  · exact ⟨_, ⟨by simp, by simp, by simp, by simp⟩, h, fun _ _ q => by cases q⟩
  · refine ⟨_, ⟨by simp [rpC], List.take_of_length_le (by simp [rpC]), by simp [rpC], by intro n; simp [rpC]⟩, h, fun _ _ q => by cases q; rfl⟩
/-- The document's answer. -/
theorem ver_ref {key sig msg : List UInt8} {ax ay rx ry : Fp} (h1 : decE (byN key) = some (ax, ay)) (h2 : decE (byN (sig.take 32)) = some (rx, ry)) (h3 : byN (sig.drop 32) < Lq) :
    verP key sig msg = sameR (mB (byN (sig.drop 32))) (Cv.addR (toF dP) ⟨rx, ry, 1⟩ (timesR ⟨ax, ay, 1⟩ (hashN (sig.take 32 ++ (key ++ msg))) (toF dP) 256)) := by
  unfold verP
  rw [h1]; simp only; rw [h2]; simp only; rw [if_pos h3]
  have hk : hashN (sig.take 32 ++ (key ++ msg)) < 2 ^ 256 := Nat.lt_of_lt_of_le (Nat.mod_lt _ (by decide)) (Nat.le_of_lt (Nat.lt_of_lt_of_le Lq_lt (by decide)))
  have hn : byN (sig.drop 32) < 2 ^ 256 := Nat.lt_of_lt_of_le h3 (Nat.le_of_lt (Nat.lt_of_lt_of_le Lq_lt (by decide)))
  generalize hashN (sig.take 32 ++ (key ++ msg)) = k at *
  let A : Cv.Pt FP := ⟨ax, ay, (decE_on h1).1⟩
  let R : Cv.Pt FP := ⟨rx, ry, (decE_on h2).1⟩
  have rA : Cv.Rep (atE ax ay) A := rep_at A
  have rR : Cv.Rep (atE rx ry) R := rep_at R
  have qA : Cv.RRep ⟨ax, ay, 1⟩ A := rrep_at A
  have qR : Cv.RRep ⟨rx, ry, 1⟩ R := rrep_at R
  exact bool_eq (sameE_rep (pB_rep hn) (add2_rep rR (times256 rA hk))) (sameR_rep (mB_rep hn) (Cv.addR_rep qR (timesR256 qA hk)))
theorem ver_no {key sig msg : List UInt8} (h : (decE (byN key)).isSome = false ∨ (decE (byN (sig.take 32))).isSome = false ∨ ¬ byN (sig.drop 32) < Lq) : verP key sig msg = false := by
  unfold verP
  cases h1 : decE (byN key) with
  | none => rfl
  | some a => cases h2 : decE (byN (sig.take 32)) with
    | none => rfl
    | some r =>
      rw [h1, h2] at h
      rcases h with h | h | h
      · cases h
      · cases h
      · exact if_neg h
set_option maxRecDepth 100000 in
set_option maxHeartbeats 4000000 in
theorem fRSgVerify_spec (key sig msg : List UInt8) (hk : key.length = 32) (hs : sig.length = 64) (md : Md) (hm : msg.length < 2 ^ 39) : FSpec Try.prog 48 [.agg (key.map bv), .list 1 md (msg.map bv), .agg (sig.map bv)] [] (.bool (verP key sig msg)) [] := by
  obtain ⟨A, ⟨A1, A2, A3, A4⟩, d1, A5⟩ := dec_abs key hk
  obtain ⟨R, ⟨R1, R2, R3, R4⟩, d2, R5⟩ := dec_abs (sig.take 32) (by simp [hs])
  have hnlt : byN (sig.drop 32) < 2 ^ 256 := by have := byN_lt (sig.drop 32); rw [show (sig.drop 32).length = 32 by simp [hs]] at this; exact this
  have d3 := fBelow_spec (byN (sig.drop 32)) hnlt
  have kt : List.take 32 (key.map bv) = key.map bv := List.take_of_length_le (by simp [hk])
  have hb1 : arr .u8 32 (fun k => (sig.getD k 0).toNat) = (sig.map bv).take 32 := by
    have := byteAt (sig.take 32) 32 0 (by simp [hs])
    simp only [List.drop_zero, Nat.zero_add] at this
    rw [← List.map_take, ← this]
    exact arr_ext fun k hk => by simp [List.getD_eq_getElem?_getD, List.getElem?_take, hk]
  have hb2 := byteAt sig 32 32 hs
  have kt2 : List.take 32 (List.take 32 (sig.map bv)) = List.take 32 (sig.map bv) := List.take_of_length_le (by simp [hs])
  rw [List.map_take] at d2
  refine FSpec.of_W (c := (.seq (.reg fRSgVerify_r0) (.seq (.reg fRSgVerify_r1) (.seq (.seq (.reg fRSgVerify_r2) (.block 0 (.loop fRSgVerify_l1))) (.keep [1, 3, 7, 8] (.seq (.reg fRSgVerify_r7) (.seq (.reg fRSgVerify_r8) (.seq (.reg fRSgVerify_r9) (.seq (.seq (.reg fRSgVerify_r10) (.block 2 (.loop fRSgVerify_l3))) (.keep [1, 3, 7, 10, 11, 12, 13, 14] (.seq (.reg fRSgVerify_r14) (.seq (.seq (.reg fRSgVerify_r15) (.cond (.t 72) fRSgVerify_k4 (.kill [72] .skip))) (.keep [1, 3, 7, 10, 12, 14] (.seq (.reg fRSgVerify_r17) (.cut (.seq (.draw fRSgVerify_r18) (.seq (.draw fRSgVerify_r19) .ret))))))))))))))))) fRSgVerify_low (by simp) ?_
  simp only [initEnv]
  simp [hk, hs]
  refine W_loop (X := { i : Nat // i ≤ 32 }) (fun i => [(1, .list 1 md (msg.map bv)), (3, .ptr 0 0), (5, .ptr 1 0), (7, .ptr 2 0), (8, .ptr 3 0), (9, .int .i64 i.1)])
    (fun i => [some ⟨key.map bv, 23, true⟩, some ⟨sig.map bv, 25, true⟩, some ⟨arr .u8 32 (fill i.1 fun k => (sig.getD k 0).toNat), 23, true⟩, some ⟨arr .u8 32 (fill i.1 fun k => (sig.getD (32 + k) 0).toNat), 23, true⟩]) (fun i => 32 - i.1) ⟨0, by omega⟩ retPost_le ?_ ?_
  · exact cut_w (by simp)
  · rintro ⟨i, hi⟩
    simp only
    simp
    refine WC_dec (fun h => ?_) (fun h => ?_)
    · have h1 : i < sig.length := by omega
      have h2 : 32 + i < sig.length := by omega
      have c1 : sig[i]? = some sig[i] := by simp
      have c2 : sig[32 + i]? = some sig[32 + i] := by simp
      have g1 : (sig.getD i 0).toNat = sig[i].toNat := by simp [h1]
      have g2 : (sig.getD (32 + i) 0).toNat = sig[32 + i].toNat := by simp [h2]
      have u1 := upd_fill i (fun k => (sig.getD k 0).toNat)
      have u2 := upd_fill i (fun k => (sig.getD (32 + k) 0).toNat)
      simp only [g1] at u1
      simp only [g2] at u2
      have w1 : IntKind.i64.wrap (32 + (i : Int)) = ((32 + i : Nat) : Int) := by rw [wrap64s (by omega) (by omega)]; simp
      have w2 : IntKind.i64.wrap ((i : Int) + 1) = (i : Int) + 1 := wrap64s (by omega) (by omega)
      simp [h, c1, c2, w1, w2, hs]
      repeat (refine ⟨by omega, ?_⟩)
      simp only [List.getD_eq_getElem?_getD] at u1 u2
      refine ⟨⟨i + 1, by omega⟩, by simp; omega, ?_⟩
      exact cut_w (by simp [u1, u2, show (32 + (i : Int)).toNat = 32 + i by omega, c2])
    · have : i = 32 := by omega
      subst this
      simp only [List.getD_eq_getElem?_getD] at hb1 hb2
      simp [arr_fill, hb1, hb2, kt]
      refine ⟨by omega, ?_⟩
      refine WO_callP [] rfl rfl d1 (by simp [A3]) (by simp [hk]) ?_
      simp [A1, A2, A3, A4, hk, kt2]
      refine ⟨by omega, ?_⟩
      refine WO_callP [] rfl rfl d2 (by simp [R3]) (by simp [hs]) ?_
      simp [R1, R2, R3, R4, hs]
      obtain ⟨S, hS⟩ : ∃ S, S = sig.drop 32 := ⟨_, rfl⟩
      rw [← hS] at d3 hnlt
      have hSl : S.length = 32 := by rw [hS]; simp [hs]
      have hSm : List.drop 32 (List.map bv sig) = S.map bv := by rw [hS, List.map_drop]
      simp only [hSm]
      refine W_loop (X := { k : Nat // k ≤ 32 }) (fun i => [(1, .list 1 md (msg.map bv)), (3, .ptr 0 0), (7, .ptr 2 0), (8, .ptr 3 0), (10, .ptr 4 0), (11, .bool (decE (byN key)).isSome), (12, .ptr 5 0), (13, .bool (decE (byN (sig.take 32))).isSome), (14, .ptr 6 0), (15, .int .i64 ((i.1 : Int) - 1))])
        (fun i => [some ⟨key.map bv, 23, true⟩, some ⟨sig.map bv, 25, true⟩, some ⟨(sig.map bv).take 32, 23, true⟩, some ⟨S.map bv, 23, true⟩, some ⟨A, 57, true⟩, some ⟨R, 57, true⟩, some ⟨arr .u64 4 (sbN (byN S) i.1), 48, true⟩]) (fun i => i.1) ⟨32, by omega⟩ retPost_le ?_ ?_
      · exact cut_w (by simp [sbN_top, A4, R4, q4_zero])
      · rintro ⟨i, hi⟩
        obtain _ | k := i
        · simp [sbN_zero]
          refine WO_callP [] rfl rfl d3 (by simp) (by simp) ?_
          by_cases h1 : (decE (byN key)).isSome = true
          · by_cases h2 : (decE (byN (sig.take 32))).isSome = true
            · by_cases h3 : byN S < Lq
              · obtain ⟨⟨ax, ay⟩, hA⟩ := Option.isSome_iff_exists.1 h1
                obtain ⟨⟨rx, ry⟩, hR⟩ := Option.isSome_iff_exists.1 h2
                have hV := ver_ref (msg := msg) hA hR (by rw [← hS]; exact h3)
                rw [← hS] at hV
                rw [hV]
                obtain rfl := A5 ax ay hA
                obtain rfl := R5 rx ry hR
                have hB := fRCvBase_spec
                have hD := fRCvD_spec
                have hH := fRSgHash_spec [(⟨false, true, false⟩, sig.take 32), (⟨false, true, false⟩, key), (md, msg)] ⟨false, true, false⟩ (by simp [allB, hs, hk]; omega) (by simp)
                rw [show allB [(⟨false, true, false⟩, sig.take 32), (⟨false, true, false⟩, key), (md, msg)] = sig.take 32 ++ (key ++ msg) by simp [allB]] at hH
                simp only [List.map_cons, List.map_nil, lsV, List.map_take] at hH
                have t1 := fRCvTimes_spec ⟨toF baseX, toF baseY, 1⟩ (byN S) (toF dP)
                rw [show timesR ⟨toF baseX, toF baseY, 1⟩ (byN S) (toF dP) 256 = mB (byN S) from rfl] at t1
                have t2 := fRCvTimes_spec ⟨ax, ay, 1⟩ (hashN (sig.take 32 ++ (key ++ msg))) (toF dP)
                have a1 := fRCvAdd_spec ⟨rx, ry, 1⟩ (timesR ⟨ax, ay, 1⟩ (hashN (sig.take 32 ++ (key ++ msg))) (toF dP) 256) (toF dP)
                have s1 := fRCvSame_spec (mB (byN S)) (Cv.addR (toF dP) ⟨rx, ry, 1⟩ (timesR ⟨ax, ay, 1⟩ (hashN (sig.take 32 ++ (key ++ msg))) (toF dP) 256))
                clear hV A5 R5 d1 d2
                generalize sameR (mB (byN S)) (Cv.addR (toF dP) ⟨rx, ry, 1⟩ (timesR ⟨ax, ay, 1⟩ (hashN (sig.take 32 ++ (key ++ msg))) (toF dP) 256)) = z at *
                generalize Cv.addR (toF dP) ⟨rx, ry, 1⟩ (timesR ⟨ax, ay, 1⟩ (hashN (sig.take 32 ++ (key ++ msg))) (toF dP) 256) = Y at *
                generalize timesR ⟨ax, ay, 1⟩ (hashN (sig.take 32 ++ (key ++ msg))) (toF dP) 256 = KA at *
                generalize hashN (sig.take 32 ++ (key ++ msg)) = h at *
                generalize mB (byN S) = M at *
                generalize toF baseX = bx at *
                generalize toF baseY = by' at *
                generalize toF dP = d at *
                simp only [rpC] at *
                simp [h1, h2, h3]
                refine WO_callP [] rfl rfl hD (by simp) (by simp) ?_
                simp
                refine W_cut (cut_trans (cut_frz 0 rfl) (cut_frz 2 rfl)) ?_
                simp [hk, hs, kt, kt2]
                refine WO_callQ rfl hH (by simp) ?_
                simp [hk, hs, kt, kt2]
                refine WO_callP [] rfl rfl hB (by simp) (by simp) ?_
                simp
                refine WO_callP [] rfl rfl t1 (by simp) (by simp) ?_
                simp
                refine WO_callP [] rfl rfl t2 (by simp) (by simp) ?_
                simp
                refine WO_callP [] rfl rfl a1 (by simp) (by simp) ?_
                simp
                refine WO_callP [] rfl rfl s1 (by simp) (by simp) ?_
                simp
                exact fin_W (by simp)
              · simp [h1, h2, h3]
                exact fin_W (by simp [ver_no (key := key) (sig := sig) (msg := msg) (.inr (.inr (by rw [← hS]; exact h3)))])
            · simp [h1, h2]
              exact fin_W (by simp [ver_no (key := key) (sig := sig) (msg := msg) (.inr (.inl (Bool.eq_false_iff.2 h2)))])
          · simp [h1]
            exact fin_W (by simp [ver_no (key := key) (sig := sig) (msg := msg) (.inl (Bool.eq_false_iff.2 h1))])
        · have hk2 : k < S.length := by omega
          have hc : S[k]? = some S[k] := by simp
          obtain ⟨q, hq⟩ : ∃ q, q = k / 8 := ⟨_, rfl⟩
          have e1 : (k : Int).tdiv 8 = (q : Int) := by rw [hq]; rfl
          have e2 := sbN_add S k hk2
          have e3 := sbN_step (byN S) k
          rw [← hq] at e2 e3
          have e4 : IntKind.u64.wrap ((S[k].toNat : Nat) : Int) = (S[k].toNat : Nat) := by rw [wrapu64]; have := UInt8.toNat_lt S[k]; congr 1; omega
          obtain ⟨v, hv⟩ : ∃ v, v = wd (byN S) q / 256 ^ (k % 8) := ⟨_, rfl⟩
          rw [← hv] at e2 e3
          have e5 : (q : Int) < 4 := by omega
          have e6 : q < 4 := by omega
          simp [e1, hc, e2, e4, e5, e6, hk2, IntKind.bits, wrap64s (n := (q : Int)) (by omega) (by omega)]
          repeat (refine ⟨by omega, ?_⟩)
          refine ⟨⟨k, by omega⟩, by simp, ?_⟩
          exact cut_w (by simp [e3, A4, R4, wrap64s (n := (k : Int) - 1) (by omega) (by omega)])
end Go.Proofs.Ythgibibeoapfbaa
