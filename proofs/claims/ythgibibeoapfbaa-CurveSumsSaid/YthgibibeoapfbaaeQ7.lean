/-
  Field.
-/
import Derived.Test.YthgibibeoapfbaaeQ6
set_option linter.unusedSimpArgs false
set_option linter.unnecessarySimpa false
set_option linter.unusedVariables false
set_option linter.unusedSectionVars false
namespace Go.Proofs.Ythgibibeoapfbaa
open Go Go.Fw
attribute [local simp] bv cleanL_bv toBytes_bv ltL_bv atF_drop WS_at_bytes W_nil W_skip W_seq W_reg W_draw W_drawP W_kill W_keep W_block W_blk W_exit W_ret WX_blk WX_c WX_lp WX_li W_li W_condT W_condF W_cond WC_true WC_false
  WR_nil WR_cons WR_o1 WR_o2 o1_chk o2_chk WR_grd WG_tt WG_ff WG_tf WG_ft WG_none WS_some WS_ok1 WSr_no WSr_some WSr_ok1 WSr_at_bytes WH_some WHA_some chkF_cons chkF_nil chkE_some chkE_ok1 chkE_at evF WO_mv WO_pick WO_bin WO_isNil WO_eqA WO_un WO_convI WO_toStr WO_ofStr WO_build WO_buildF WO_load WO_nilCheck WO_fieldAddr WO_field WO_idxA WO_idxS
  WO_ixA WO_slS WO_slA WO_len WO_lenK WO_appF WO_extract WO_s2a WO_iface WO_min WO_max WO_alloc WO_box WO_buildO WO_store WO_appO WO_copy WO_makeS WO_allocA WO_makeA WO_cvt cvtF_slice WO_look lookF_map alAF mkAF WO_func bind1_v bind2_v bindH_v bindH2_v bindS_v okO_v pickO_t pickO_f
  Env.keep Env.get Env.set Env.del Env.dels Env.setO Env.opd Env.opds Env.opdO Env.parts intF aggF fillA splice cleanL AV.clean bndF fldF_one fldF_many toStrF boxF buildOF
  loadF_rptr loadF_rptrN atF_zero atF_succ blk_cons_zero blk_cons_succ loadF_p loadF_pN atB_some atBN_some retPost resL one
  okc_bool cells_bool notStr_bool okc_int cells_int notStr_int okc_str cells_str notStr_str okc_nil cells_nil notStr_nil okc_ptr cells_ptr notStr_ptr okc_rptr cells_rptr notStr_rptr okc_slice cells_slice notStr_slice 
  okc_list cells_list notStr_list okc_func cells_func notStr_func okc_nilFunc cells_nilFunc notStr_nilFunc okc_iface cells_iface notStr_iface okc_nilIface cells_nilIface notStr_nilIface okc_agg cells_agg notStr_agg 
  okc_tuple cells_tuple notStr_tuple lenF_slice lenF_list lenF_str faF_ptr faF_rptr idxSF_slice idxSF_list idxAF_ptr idxAF_rptr ixAF_many ixAF_one convF_int unF_neg unF_xor unF_not nilF_0nil nilF_0ptr nilF_0rptr nilF_1 
  nilF_2nil nilF_2f nilF_3nil nilF_3f binF_int binF_beq binF_bne binF_sadd binF_seq binF_sne sliceCells_list sliceCells_str sliceCells_slice cutC_some szAV_list szAV_str szAV_slice oneSl_list oneSl_slice slSF_sliceS 
  slSF_sliceN slSF_list slAF_rptr slAF_ptr appFF_list appOF_list appOF_sliceN appOF_sliceS storeF_ptr copyF_slice extF_tuple s2aF_slice s2aF_list nchkF_ptr nchkF_rptr nchkF_f mmF_int ofStrF_str mkSF_int eqAF_agg
attribute [local irreducible] W WX WR WO WS WSr WH WHA WG WC FSpec
attribute [local simp] lendAll
attribute [local congr] W_cg WR_cg WO_cg WS_cg WSr_cg WH_cg WHA_cg WG_cg WC_cg WX_cg
attribute [local simp] Env.has AV.wkr wkrL AV.wkr_refl wkrL_refl AV.ltI ltL leHW hasW Env.lt AV.ids idsL AV.sub subL AV.ren AV.frz frzS frzP frzE frzL Heap.frz Blk.frz Blk.ren renL rnS rnP hasR leR idsL_bv subL_bv
attribute [local simp] cleanL_take cleanL_drop ltL_take ltL_drop idsL_take idsL_drop subL_take subL_drop cleanL_append ltL_append idsL_append subL_append
attribute [local simp] renE mvN mvH
attribute [local simp] fwd backH putL bwd
attribute [local simp] u8i u8e List.idxOf_cons
attribute [local simp] hasRW leRW
attribute [local simp] WS_at_map WSr_at_map WS_at_arr WSr_at_arr loadWP splice_full Int.natCast_inj arr_zero32 z17 z34 fill_zero arr_set arr_take
theorem fQMul_spec (a b : Nat) (ha : a < 2 ^ 255) (hb : b < 2 ^ 255) : FSpec Try.prog 75 [.agg (q17 a), .agg (q17 b)] [] (.agg (q17 (a * b % p25))) [] := by
  have hva := vs17 ha
  have hvb := vs17 hb
  have hset := fQSettle_spec
  have h19 := mod19
  generalize p25 = p at *
  refine FSpec.of_W fQMul_low (by simp) ?_
  simp only [initEnv]
  simp [q17]
  refine W_loop (X := { x : Nat × (Nat → Nat) // x.1 ≤ 17 ∧ (∀ j, j < 34 → x.2 j ≤ x.1 * 2 ^ 30) ∧ vs x.2 34 = vs (dig a) x.1 * b })
    (fun x => [(2, .ptr 0 0), (3, .ptr 1 0), (4, .ptr 2 0), (5, .ptr 3 0), (6, .int .i64 x.1.1)])
    (fun x => [some ⟨arr .i64 17 (dig a), 55, true⟩, some ⟨arr .i64 17 (dig b), 55, true⟩, some ⟨arr .i64 17 fun _ => 0, 55, true⟩, some ⟨arr .i64 34 x.1.2, 166, true⟩])
    (fun x => 17 - x.1.1) ⟨(0, fun _ => 0), by simp, by simp, by rw [show vs (dig a) 0 = 0 from rfl, Nat.zero_mul]; decide +kernel⟩ retPost_le ?_ ?_
  · exact cut_w (by simp)
  · rintro ⟨⟨i, g⟩, hi, hg, hv⟩
    simp only at hi hg hv ⊢
    simp
    refine WC_dec (fun hl => ?_) (fun hl => ?_)
    · have h1 := dig_lt a i
      obtain ⟨x, hx⟩ : ∃ x, x = dig a i := ⟨_, rfl⟩
      rw [← hx] at h1
      simp
      refine W_loop (X := { y : Nat × (Nat → Nat) // y.1 ≤ 17 ∧ (∀ j, j < 34 → y.2 j ≤ i * 2 ^ 30 + if j < i + y.1 then 2 ^ 30 else 0) ∧ vs y.2 34 = vs (dig a) i * b + x * 32768 ^ i * vs (dig b) y.1 })
        (fun y => [(2, .ptr 0 0), (3, .ptr 1 0), (4, .ptr 2 0), (5, .ptr 3 0), (6, .int .i64 i), (7, .int .i64 y.1.1)])
        (fun y => [some ⟨arr .i64 17 (dig a), 55, true⟩, some ⟨arr .i64 17 (dig b), 55, true⟩, some ⟨arr .i64 17 fun _ => 0, 55, true⟩, some ⟨arr .i64 34 y.1.2, 166, true⟩])
        (fun y => 17 - y.1.1) ⟨(0, g), by simp, fun j hj => Nat.le_trans (hg j hj) (Nat.le_add_right _ _), (by rw [show vs (dig b) 0 = 0 from rfl, Nat.mul_zero, Nat.add_zero]; exact hv : vs g 34 = vs (dig a) i * b + x * 32768 ^ i * vs (dig b) 0)⟩ retPost_le ?_ ?_
      · exact cut_w (by simp)
      · rintro ⟨⟨k, g'⟩, hk, hg', hv'⟩
        simp only at hk hg' hv' ⊢
        simp
        refine WC_dec (fun hl => ?_) (fun hl => ?_)
        · have h2 := dig_lt b k
          obtain ⟨y, hy⟩ : ∃ y, y = dig b k := ⟨_, rfl⟩
          rw [← hy] at h2
          obtain ⟨w, hw⟩ : ∃ w, w = g' (i + k) := ⟨_, rfl⟩
          have hwl := hg' (i + k) (by omega)
          rw [← hw, if_neg (by omega)] at hwl
          have hxy := Nat.mul_le_mul (show x ≤ 32767 by omega) (show y ≤ 32767 by omega)
          obtain ⟨v, hv1⟩ : ∃ v, v = x * y := ⟨_, rfl⟩
          rw [← hv1] at hxy
          have e1 : IntKind.i64.wrap ((x : Int) * y) = (v : Nat) := by rw [hv1, ← Int.natCast_mul]; exact wrap64 (by omega) (by omega)
          have e2 : IntKind.i64.wrap ((i : Int) + k) = (i : Int) + k := wrap64s (by omega) (by omega)
          have e3 : ((i : Int) + k).toNat = i + k := by omega
          obtain ⟨u, hu⟩ : ∃ u, u = w + v := ⟨_, rfl⟩
          have e4 : IntKind.i64.wrap ((w : Int) + v) = (u : Nat) := by rw [hu, ← Int.natCast_add]; exact wrap64 (by omega) (by omega)
          have w1 : IntKind.i64.wrap ((k : Int) + 1) = (k : Int) + 1 := wrap64s (by omega) (by omega)
          simp [← hx, ← hy, e1, e2, e3, ← hw, e4]
          repeat (refine ⟨by omega, ?_⟩)
          refine ⟨⟨(k + 1, upd g' (i + k) u), by simp only; omega, ?_, ?_⟩, by simp only; omega, cut_w (by simp [w1])⟩
          · intro j hj
            simp only at hj ⊢
            unfold upd
            split
            · rw [if_pos (by omega)]; omega
            · have := hg' j hj
              split at this
              · rw [if_pos (by omega)]; exact this
              · rw [if_neg (by omega)]; exact this
          · simp only
            have E := vs_upd_add (g := g') (i := i + k) (v := v) (m := 34) (by omega)
            rw [← hw, ← hu] at E
            rw [E, hv', vs, Nat.mul_add, ← hy, hv1, Nat.pow_add, ← Nat.add_assoc]
            congr 1
            ac_rfl
        · have : k = 17 := by omega
          subst this
          rw [hvb] at hv'
          have w1 : IntKind.i64.wrap ((i : Int) + 1) = (i : Int) + 1 := wrap64s (by omega) (by omega)
          simp
          refine ⟨⟨(i + 1, g'), by simp only; omega, ?_, ?_⟩, by simp only; omega, cut_w (by simp [w1])⟩
          · intro j hj
            have := hg' j hj
            simp only
            split at this <;> omega
          · simp only
            rw [hv', vs, ← hx, Nat.add_mul]
    · have : i = 17 := by omega
      subst this
      rw [hva] at hv
      have hsp := vs_split g 17 17
      rw [hv] at hsp
      have hmod : vs (fun k => g k + 19 * g (17 + k)) 17 % p = a * b % p := by
        rw [vs_add, vs_mul, ← h19, two255, ← hsp]
      have hS := hset (fun k => g k + 19 * g (17 + k)) (fun k hk => by have := hg k (by omega); have := hg (17 + k) (by omega); omega)
      rw [hmod] at hS
      clear hmod hsp hv
      simp
      refine W_loop (X := { k : Nat // k ≤ 17 }) (fun k => [(4, .ptr 2 0), (5, .ptr 3 0), (8, .ptr 4 0), (9, .int .i64 k.1)])
        (fun k => [some ⟨arr .i64 17 (dig a), 55, true⟩, some ⟨arr .i64 17 (dig b), 55, true⟩, some ⟨arr .i64 17 fun _ => 0, 55, true⟩, some ⟨arr .i64 34 g, 166, true⟩, some ⟨arr .i64 17 (fill k.1 (fun k => g k + 19 * g (17 + k))), 55, true⟩])
        (fun k => 17 - k.1) ⟨0, by simp⟩ retPost_le ?_ ?_
      · exact cut_w (by simp)
      · rintro ⟨k, hk⟩
        simp only
        simp
        refine WC_dec (fun hl => ?_) (fun hl => ?_)
        · have g1 := hg k (by omega)
          have g2 := hg (17 + k) (by omega)
          obtain ⟨x, hx⟩ : ∃ x, x = g k := ⟨_, rfl⟩
          obtain ⟨y, hy⟩ : ∃ y, y = g (17 + k) := ⟨_, rfl⟩
          rw [← hx] at g1
          rw [← hy] at g2
          have e2 : IntKind.i64.wrap ((k : Int) + 17) = (k : Int) + 17 := wrap64s (by omega) (by omega)
          have e3 : ((k : Int) + 17).toNat = 17 + k := by omega
          have e4 : IntKind.i64.wrap (19 * (y : Int)) = 19 * (y : Int) := wrap64s (by omega) (by omega)
          obtain ⟨u, hu⟩ : ∃ u, u = x + 19 * y := ⟨_, rfl⟩
          have e5 : IntKind.i64.wrap ((x : Int) + 19 * y) = (u : Nat) := by rw [show (x : Int) + 19 * y = (u : Nat) by omega]; exact wrap64 (by omega) (by omega)
          have e6 : upd (fill k (fun k => g k + 19 * g (17 + k))) k u = fill (k + 1) (fun k => g k + 19 * g (17 + k)) := by
            rw [hu, hx, hy]; exact upd_fill k _
          have w1 : IntKind.i64.wrap ((k : Int) + 1) = (k : Int) + 1 := wrap64s (by omega) (by omega)
          simp [e2, e3, ← hx, ← hy, e4, e5, e6]
          repeat (refine ⟨by omega, ?_⟩)
          exact ⟨⟨k + 1, by omega⟩, by simp only; omega, cut_w (by simp [w1])⟩
        · have : k = 17 := by omega
          subst this
          simp [arr_fill]
          refine WO_callP [] rfl rfl hS (by simp) (by simp) ?_
          simp
          exact fin_W (by simp [q17])
end Go.Proofs.Ythgibibeoapfbaa
