/-
  Field.
-/
import Derived.Test.YthgibibeoapfbaaeQ4
set_option linter.unusedSimpArgs false
set_option linter.unnecessarySimpa false
set_option linter.unusedVariables false
set_option linter.unusedSectionVars false
namespace Go.Proofs.Ythgibibeoapfbaa
open Go Go.Fw
attribute [local simp] bv cleanL_bv toBytes_bv ltL_bv atF_drop WS_at_bytes W_nil W_skip W_seq W_reg W_draw W_drawP W_kill W_keep W_block W_blk W_exit W_ret WX_blk WX_c WX_lp WX_li W_li W_condT W_condF W_cond WC_true WC_false
  WR_nil WR_cons WR_o1 WR_o2 o1_chk o2_chk WR_grd WG_tt WG_ff WG_tf WG_ft WG_none WS_some WS_ok1 WSr_no WSr_some WSr_ok1 WSr_at_bytes WH_some WHA_some chkF_cons chkF_nil chkE_some chkE_ok1 chkE_at evF WO_mv WO_pick WO_bin WO_isNil WO_eqA WO_un WO_convI WO_toStr WO_ofStr WO_build WO_buildF WO_load WO_nilCheck WO_fieldAddr WO_field WO_idxA WO_idxS
  WO_ixA WO_slS WO_slA WO_len WO_lenK WO_appF WO_extract WO_s2a WO_iface WO_min WO_max WO_alloc WO_box WO_buildO WO_store WO_appO WO_copy WO_makeS WO_allocA WO_makeA WO_cvt cvtF_slice WO_look lookF_map alAF mkAF WO_func bind1_v bind2_v bindH_v bindH2_v bindS_v okO_v pickO_t pickO_f
  Env.keep Env.get Env.set Env.del Env.dels Env.setO Env.opd Env.opds Env.opdO Env.parts intF aggF fillA splice cleanL AV.clean bndF fldF_one fldF_many toStrF boxF buildOF
  loadF_rptr loadF_rptrN atF_zero atF_succ blk_cons_zero blk_cons_succ loadF_p loadF_pN atB_some atBN_some retPost resL one
  okc_bool cells_bool notStr_bool okc_int cells_int notStr_int okc_str cells_str notStr_str okc_nil cells_nil notStr_nil okc_ptr cells_ptr notStr_ptr okc_rptr cells_rptr notStr_rptr okc_slice cells_slice notStr_slice 
  okc_list cells_list notStr_list okc_func cells_func notStr_func okc_nilFunc cells_nilFunc notStr_nilFunc okc_iface cells_iface notStr_iface okc_nilIface cells_nilIface notStr_nilIface okc_agg cells_agg notStr_agg 
  okc_tuple cells_tuple notStr_tuple lenF_slice lenF_list lenF_str faF_ptr faF_rptr idxSF_slice idxSF_list idxAF_ptr idxAF_rptr ixAF_many ixAF_one convF_int unF_neg unF_xor unF_not nilF_0nil nilF_0ptr nilF_0rptr nilF_1 
  nilF_2nil nilF_2f nilF_3nil nilF_3f binF_int binF_beq binF_bne binF_sadd binF_seq binF_sne sliceCells_list sliceCells_str sliceCells_slice cutC_some szAV_list szAV_str szAV_slice oneSl_list oneSl_slice slSF_sliceS 
  slSF_sliceN slSF_list slAF_rptr slAF_ptr appFF_list appOF_list appOF_sliceN appOF_sliceS storeF_ptr copyF_slice extF_tuple s2aF_slice s2aF_list nchkF_ptr nchkF_rptr nchkF_f mmF_int ofStrF_str mkSF_int eqAF_agg
attribute [local irreducible] W WX WR WO WS WSr WH WHA WG WC FSpec
attribute [local simp] lendAll
attribute [local congr] W_cg WR_cg WO_cg WS_cg WSr_cg WH_cg WHA_cg WG_cg WC_cg WX_cg
attribute [local simp] Env.has AV.wkr wkrL AV.wkr_refl wkrL_refl AV.ltI ltL leHW hasW Env.lt AV.ids idsL AV.sub subL AV.ren AV.frz frzS frzP frzE frzL Heap.frz Blk.frz Blk.ren renL rnS rnP hasR leR idsL_bv subL_bv
attribute [local simp] cleanL_take cleanL_drop ltL_take ltL_drop idsL_take idsL_drop subL_take subL_drop cleanL_append ltL_append idsL_append subL_append
attribute [local simp] renE mvN mvH
attribute [local simp] fwd backH putL bwd
attribute [local simp] u8i u8e List.idxOf_cons
attribute [local simp] hasRW leRW
attribute [local simp] WS_at_map WSr_at_map WS_at_arr WSr_at_arr loadWP splice_full Int.natCast_inj arr_zero32 z17 z34 fill_zero arr_set arr_take
theorem fQP_spec : FSpec Try.prog 73 [] [] (.agg (q17 p25)) [] := by
  have e1 : ∀ i, i < 17 → (arr .i64 17 (fill i fun _ => 32767)).set i (.int .i64 32767) = arr .i64 17 (fill (i + 1) fun _ => 32767) := fun i hi => by
    rw [← upd_fill]; exact arr_set .i64 17 _ i 32767
  have e2 : (arr .i64 17 (fill 17 fun _ => 32767)).set 0 (.int .i64 32749) = q17 p25 := by
    refine (arr_set .i64 17 _ 0 32749).trans (arr_ext fun k hk => ?_)
    have : ∀ k, k < 17 → upd (fill 17 fun _ => 32767) 0 32749 k = dig p25 k := by decide +kernel
    exact this k hk
  refine FSpec.of_W fQP_low (by simp) ?_
  simp only [initEnv]
  simp
  refine W_loop (X := { i : Nat // i ≤ 17 }) (fun i => [(0, .ptr 0 0), (1, .ptr 1 0), (2, .int .i64 i.1)]) (fun i => [some ⟨arr .i64 17 fun _ => 0, 55, true⟩, some ⟨arr .i64 17 (fill i.1 fun _ => 32767), 55, true⟩]) (fun i => 17 - i.1) ⟨0, by omega⟩ retPost_le ?_ ?_
  · exact cut_w (by simp)
  · rintro ⟨i, hi⟩
    simp only
    simp
    refine WC_dec (fun h => ?_) (fun h => ?_)
    · simp
      refine ⟨h, by omega, ⟨i + 1, by omega⟩, by simp; omega, ?_⟩
      exact cut_w (by simp [e1 i (by omega), wrap64s (n := (i : Int) + 1) (by omega) (by omega)])
    · have : i = 17 := by omega
      subst this
      simp [e2]
      exact fin_W (by simp)
theorem fQLess_spec (a b : Nat) (ha : a < 2 ^ 255) (hb : b < 2 ^ 255) : FSpec Try.prog 72 [.agg (q17 a), .agg (q17 b)] [] (.bool (decide (a < b))) [] := by
  rw [two255] at ha hb
  simp only [q17]
  refine FSpec.of_W fQLess_low (by simp) ?_
  simp only [initEnv]
  simp
  refine W_loop (X := { i : Nat // i ≤ 17 ∧ a / 32768 ^ i = b / 32768 ^ i }) (fun i => [(2, .ptr 0 0), (3, .ptr 1 0), (5, .int .i64 ((i.1 : Int) - 1))]) (fun _ => [some ⟨arr .i64 17 (dig a), 55, true⟩, some ⟨arr .i64 17 (dig b), 55, true⟩]) (fun i => i.1) ⟨17, by omega, by rw [Nat.div_eq_of_lt ha, Nat.div_eq_of_lt hb]⟩ retPost_le ?_ ?_
  · exact cut_w (by simp)
  · rintro ⟨i, hi, he⟩
    obtain _ | k := i
    · simp
      refine fin_W ?_
      simp at he
      simp [he]
    · have h4 : k < 17 := by omega
      simp [h4]
      refine ⟨by omega, ?_⟩
      refine WC_ndec (fun h => ?_) (fun h => ?_)
      · simp [h4]
        refine ⟨by omega, ?_⟩
        refine fin_W ?_
        simp
        rw [dig_cmp he (by omega)]
      · simp
        refine ⟨⟨k, by omega, dig_eq he (by omega)⟩, by simp, ?_⟩
        exact cut_w (by simp [wrap64s (n := (k : Int) - 1) (by omega) (by omega)])
/-- A number less another one, that isn't greater. -/
theorem fQUnder_spec (a b : Nat) (ha : a < 2 ^ 255) (h : b ≤ a) : FSpec Try.prog 120 [.agg (q17 a), .agg (q17 b)] [] (.agg (q17 (a - b))) [] := by
  have hva : vs (dig a) 17 = a := vs17 ha
  have hvb : vs (dig b) 17 = b := vs17 (by omega)
  simp only [q17]
  refine FSpec.of_W fQUnder_low (by simp) ?_
  simp only [initEnv]
  simp
  refine W_loop (X := { x : Nat × (Nat → Nat) × Nat // x.1 ≤ 17 ∧ (∀ k, k < x.1 → x.2.1 k < 32768) ∧ (∀ k, x.1 ≤ k → x.2.1 k = dig a k) ∧ x.2.2 ≤ 1 ∧ vs x.2.1 x.1 + vs (dig b) x.1 = vs (dig a) x.1 + x.2.2 * 32768 ^ x.1 })
    (fun x => [(2, .ptr 0 0), (3, .ptr 1 0), (4, .ptr 2 0), (5, .int .i64 (x.1.2.2 : Nat)), (6, .int .i64 x.1.1)]) (fun x => [some ⟨arr .i64 17 x.1.2.1, 55, true⟩, some ⟨arr .i64 17 (dig b), 55, true⟩, some ⟨arr .i64 17 fun _ => 0, 55, true⟩]) (fun x => 17 - x.1.1) ⟨(0, dig a, 0), by simp, by simp, fun _ _ => rfl, by simp, by simp [vs]⟩ retPost_le ?_ ?_
  · exact cut_w (by simp)
  · rintro ⟨⟨i, g, o⟩, hi, hg, hr, ho, hv⟩
    simp only at hi hg hr ho hv ⊢
    simp
    refine WC_dec (fun hl => ?_) (fun hl => ?_)
    · have h1 := dig_lt a i
      have h2 := dig_lt b i
      have hgi := hr i (Nat.le_refl _)
      obtain ⟨x, hx⟩ : ∃ x, x = dig a i := ⟨_, rfl⟩
      obtain ⟨y, hy⟩ : ∃ y, y = dig b i := ⟨_, rfl⟩
      rw [← hx] at h1 hgi
      rw [← hy] at h2
      have e1 : IntKind.i64.wrap ((x : Int) - y) = (x : Int) - y := wrap64s (by omega) (by omega)
      have e2 : IntKind.i64.wrap ((x : Int) - y - o) = (x : Int) - y - o := wrap64s (by omega) (by omega)
      have nx : ∀ (z : Nat) (o' : Nat), z < 32768 → o' ≤ 1 → z + y + o = x + o' * 32768 → ∀ k, k = i + 1 → vs (upd g i z) (i + 1) + vs (dig b) (i + 1) = vs (dig a) (i + 1) + o' * 32768 ^ (i + 1) := by
        intro z o' hz ho' he k hk
        have E := congrArg (· * 32768 ^ i) he
        simp only [Nat.add_mul] at E
        rw [vs, vs, vs, vs_upd (Nat.le_refl _), show upd g i z i = z from if_pos rfl, ← hx, ← hy, Nat.pow_succ]
        have : o' * (32768 ^ i * 32768) = o' * 32768 * 32768 ^ i := by ac_rfl
        omega
      simp [hgi, ← hy, e1, e2]
      repeat (refine ⟨by omega, ?_⟩)
      have w1 : IntKind.i64.wrap ((i : Int) + 1) = (i : Int) + 1 := wrap64s (by omega) (by omega)
      refine WC_dec (fun hn => ?_) (fun hn => ?_)
      · obtain ⟨z, hz⟩ : ∃ z : Nat, (z : Int) = (x : Int) - y - o + 32768 := ⟨x + 32768 - y - o, by omega⟩
        have e3 : IntKind.i64.wrap ((x : Int) - y - o + 32768) = (z : Int) := by rw [hz]; exact wrap64s (by omega) (by omega)
        simp [e3]
        repeat (refine ⟨by omega, ?_⟩)
        refine ⟨⟨(i + 1, upd g i z, 1), by simp only; omega, ?_, ?_, by simp, nx z 1 (by omega) (by omega) (by omega) (i + 1) rfl⟩, by simp only; omega, cut_w (by simp [w1])⟩
        · intro k hk
          simp only at hk ⊢
          unfold upd
          split
          · omega
          · exact hg k (by omega)
        · intro k hk
          simp only at hk ⊢
          unfold upd
          rw [if_neg (by omega)]
          exact hr k (by omega)
      · obtain ⟨z, hz⟩ : ∃ z : Nat, (z : Int) = (x : Int) - y - o := ⟨x - y - o, by omega⟩
        rw [← hz]
        simp
        repeat (refine ⟨by omega, ?_⟩)
        refine ⟨⟨(i + 1, upd g i z, 0), by simp only; omega, ?_, ?_, by simp, nx z 0 (by omega) (by omega) (by omega) (i + 1) rfl⟩, by simp only; omega, cut_w (by simp [w1])⟩
        · intro k hk
          simp only at hk ⊢
          unfold upd
          split
          · omega
          · exact hg k (by omega)
        · intro k hk
          simp only at hk ⊢
          unfold upd
          rw [if_neg (by omega)]
          exact hr k (by omega)
    · have hi17 : i = 17 := by omega
      subst hi17
      rw [hva, hvb] at hv
      have hlt := vs17_lt hg
      rw [← two255] at hv
      have ho0 : o = 0 := by omega
      have he : vs g 17 = a - b := by omega
      have hq := q17_vs hg
      rw [he, q17] at hq
      simp [hq]
      exact fin_W (by simp)
end Go.Proofs.Ythgibibeoapfbaa
