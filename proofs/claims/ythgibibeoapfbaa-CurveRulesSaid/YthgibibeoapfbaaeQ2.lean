/-
  Field.
-/
import Derived.Test.YthgibibeoapfbaaeQ1
set_option linter.unusedSimpArgs false
set_option linter.unnecessarySimpa false
set_option linter.unusedVariables false
set_option linter.unusedSectionVars false
namespace Go.Proofs.Ythgibibeoapfbaa
open Go Go.Fw
attribute [local simp] bv cleanL_bv toBytes_bv ltL_bv atF_drop WS_at_bytes W_nil W_skip W_seq W_reg W_draw W_drawP W_kill W_keep W_block W_blk W_exit W_ret WX_blk WX_c WX_lp WX_li W_li W_condT W_condF W_cond WC_true WC_false
  WR_nil WR_cons WR_o1 WR_o2 o1_chk o2_chk WR_grd WG_tt WG_ff WG_tf WG_ft WG_none WS_some WS_ok1 WSr_no WSr_some WSr_ok1 WSr_at_bytes WH_some WHA_some chkF_cons chkF_nil chkE_some chkE_ok1 chkE_at evF WO_mv WO_pick WO_bin WO_isNil WO_eqA WO_un WO_convI WO_toStr WO_ofStr WO_build WO_buildF WO_load WO_nilCheck WO_fieldAddr WO_field WO_idxA WO_idxS
  WO_ixA WO_slS WO_slA WO_len WO_lenK WO_appF WO_extract WO_s2a WO_iface WO_min WO_max WO_alloc WO_box WO_buildO WO_store WO_appO WO_copy WO_makeS WO_allocA WO_makeA WO_cvt cvtF_slice WO_look lookF_map alAF mkAF WO_func bind1_v bind2_v bindH_v bindH2_v bindS_v okO_v pickO_t pickO_f
  Env.keep Env.get Env.set Env.del Env.dels Env.setO Env.opd Env.opds Env.opdO Env.parts intF aggF fillA splice cleanL AV.clean bndF fldF_one fldF_many toStrF boxF buildOF
  loadF_rptr loadF_rptrN atF_zero atF_succ blk_cons_zero blk_cons_succ loadF_p loadF_pN atB_some atBN_some retPost resL one
  okc_bool cells_bool notStr_bool okc_int cells_int notStr_int okc_str cells_str notStr_str okc_nil cells_nil notStr_nil okc_ptr cells_ptr notStr_ptr okc_rptr cells_rptr notStr_rptr okc_slice cells_slice notStr_slice 
  okc_list cells_list notStr_list okc_func cells_func notStr_func okc_nilFunc cells_nilFunc notStr_nilFunc okc_iface cells_iface notStr_iface okc_nilIface cells_nilIface notStr_nilIface okc_agg cells_agg notStr_agg 
  okc_tuple cells_tuple notStr_tuple lenF_slice lenF_list lenF_str faF_ptr faF_rptr idxSF_slice idxSF_list idxAF_ptr idxAF_rptr ixAF_many ixAF_one convF_int unF_neg unF_xor unF_not nilF_0nil nilF_0ptr nilF_0rptr nilF_1 
  nilF_2nil nilF_2f nilF_3nil nilF_3f binF_int binF_beq binF_bne binF_sadd binF_seq binF_sne sliceCells_list sliceCells_str sliceCells_slice cutC_some szAV_list szAV_str szAV_slice oneSl_list oneSl_slice slSF_sliceS 
  slSF_sliceN slSF_list slAF_rptr slAF_ptr appFF_list appOF_list appOF_sliceN appOF_sliceS storeF_ptr copyF_slice extF_tuple s2aF_slice s2aF_list nchkF_ptr nchkF_rptr nchkF_f mmF_int ofStrF_str mkSF_int eqAF_agg
attribute [local irreducible] W WX WR WO WS WSr WH WHA WG WC FSpec
attribute [local simp] lendAll
attribute [local congr] W_cg WR_cg WO_cg WS_cg WSr_cg WH_cg WHA_cg WG_cg WC_cg WX_cg
attribute [local simp] Env.has AV.wkr wkrL AV.wkr_refl wkrL_refl AV.ltI ltL leHW hasW Env.lt AV.ids idsL AV.sub subL AV.ren AV.frz frzS frzP frzE frzL Heap.frz Blk.frz Blk.ren renL rnS rnP hasR leR idsL_bv subL_bv
attribute [local simp] cleanL_take cleanL_drop ltL_take ltL_drop idsL_take idsL_drop subL_take subL_drop cleanL_append ltL_append idsL_append subL_append
attribute [local simp] renE mvN mvH
attribute [local simp] fwd backH putL bwd
attribute [local simp] u8i u8e List.idxOf_cons
attribute [local simp] hasRW leRW
attribute [local simp] WS_at_q4 WSr_at_q4 WS_at_mx mx_set' loadWP splice_full Int.natCast_inj WS_at_arr WSr_at_arr arr_set
theorem vb_zero : ∀ m, vb (fun _ => 0) m = 0
  | 0 => rfl
  | m + 1 => by rw [vb, vb_zero m, Nat.zero_mul]
/-- One step of a product: a word times a word, and what is there, and what goes over. -/
theorem step_lt {x y w o : Nat} (hx : x < 2 ^ 64) (hy : y < 2 ^ 64) (hw : w < 2 ^ 64) (ho : o < 2 ^ 64) : x * y + w + o < 2 ^ 128 := by
  have := Nat.mul_le_mul (show x ≤ 2 ^ 64 - 1 by omega) (show y ≤ 2 ^ 64 - 1 by omega)
  omega
theorem step_hi {z w o : Nat} : (z / 2 ^ 64 + ((z % 2 ^ 64 + w) / 2 ^ 64)) + (((z % 2 ^ 64 + w) % 2 ^ 64 + o) / 2 ^ 64) = (z + w + o) / 2 ^ 64 := by omega
theorem step_lo {z w o : Nat} : ((z % 2 ^ 64 + w) % 2 ^ 64 + o) % 2 ^ 64 = (z + w + o) % 2 ^ 64 := by omega
set_option maxHeartbeats 1000000 in
theorem fFdTimes_spec (a b : Nat) (ha : a < 2 ^ 256) (hb : b < 2 ^ 256) : FSpec Try.prog 113 [.agg (q4 a), .agg (q4 b)] [] (.agg (q4 (a * b % p25))) [] := by
  have hfold := fFdFolded_spec
  have h38 := mod38
  generalize p25 = p at *
  have top4 : ∀ n k : Nat, n < 2 ^ 256 → k = 4 → n % 2 ^ (64 * k) = n := fun n k hn hk => by rw [hk]; exact Nat.mod_eq_of_lt hn
  have hb4 := fun k => top4 b k hb
  have ha4 := fun k => top4 a k ha
  refine FSpec.of_W fFdTimes_low (by simp) ?_
  simp only [initEnv]
  simp
  refine W_loop (X := { v : Nat × (Nat → Nat) // v.1 ≤ 4 ∧ (∀ j, j < 8 → v.2 j < 2 ^ 64) ∧ (∀ j, v.1 + 4 ≤ j → j < 8 → v.2 j = 0) ∧ vb v.2 8 = (a % 2 ^ (64 * v.1)) * b })
    (fun v => [(3, .ptr 1 0), (4, .ptr 2 0), (5, .ptr 3 0), (22, .agg (q4 a)), (23, .int .i64 v.1.1)])
    (fun v => [some ⟨q4 a, 49, true⟩, some ⟨q4 b, 49, true⟩, some ⟨q4 0, 49, true⟩, some ⟨arr .u64 8 v.1.2, 180, true⟩])
    (fun v => 4 - v.1.1) ⟨(0, fun _ => 0), by simp, fun _ _ => by simp, fun _ _ _ => rfl, by rw [vb_zero, Nat.mul_zero, Nat.pow_zero, Nat.mod_one, Nat.zero_mul]⟩ retPost_le ?_ ?_
  · have hz8 : arr .u64 8 (fun _ => 0) = [.int .u64 0, .int .u64 0, .int .u64 0, .int .u64 0, .int .u64 0, .int .u64 0, .int .u64 0, .int .u64 0] := rfl
    exact cut_w (by simp [q4_zero, hz8])
  · rintro ⟨⟨i, g⟩, hi, hg, hz, hv⟩
    simp only at hi hg hz hv ⊢
    simp
    refine WC_dec (fun h => ?_) (fun h => ?_)
    · have h4 : i < 4 := by omega
      simp [h4]
      refine ⟨by omega, ?_⟩
      obtain ⟨x, hx⟩ : ∃ x, x = wd a i := ⟨_, rfl⟩
      have hx64 : x < 2 ^ 64 := by rw [hx]; exact wd_lt a i
      rw [← hx]
      refine W_loop (X := { v : Nat × (Nat → Nat) × Nat // v.1 ≤ 4 ∧ (∀ j, j < 8 → v.2.1 j < 2 ^ 64) ∧ v.2.2 < 2 ^ 64 ∧ (∀ j, i + 4 ≤ j → j < 8 → v.2.1 j = 0) ∧ vb v.2.1 8 + v.2.2 * 2 ^ (64 * (i + v.1)) = (a % 2 ^ (64 * i)) * b + x * (b % 2 ^ (64 * v.1)) * 2 ^ (64 * i) })
        (fun v => [(3, .ptr 1 0), (4, .ptr 2 0), (5, .ptr 3 0), (6, .int .i64 i), (7, .int .u64 (x : Nat)), (8, .int .u64 (v.1.2.2 : Nat)), (22, .agg (q4 a)), (23, .int .i64 i), (27, .agg (q4 b)), (28, .int .i64 v.1.1)])
        (fun v => [some ⟨q4 a, 49, true⟩, some ⟨q4 b, 49, true⟩, some ⟨q4 0, 49, true⟩, some ⟨arr .u64 8 v.1.2.1, 180, true⟩])
        (fun v => 4 - v.1.1) ⟨(0, g, 0), by simp, hg, by simp, hz, by simp [Nat.mod_one, hv]⟩ retPost_le ?_ ?_
      · exact cut_w (by simp)
      · rintro ⟨⟨k, g', o⟩, hk, hg', ho, hz', hv'⟩
        simp only at hk hg' ho hz' hv' ⊢
        simp
        refine WC_dec (fun h => ?_) (fun h => ?_)
        · have k4 : k < 4 := by omega
          obtain ⟨y, hy⟩ : ∃ y, y = wd b k := ⟨_, rfl⟩
          have hy64 : y < 2 ^ 64 := by rw [hy]; exact wd_lt b k
          have hM := fMul64_spec x y hx64 hy64
          obtain ⟨w, hw⟩ : ∃ w, w = g' (i + k) := ⟨_, rfl⟩
          have hw64 : w < 2 ^ 64 := by rw [hw]; exact hg' _ (by omega)
          have hs := step_lt hx64 hy64 hw64 ho
          obtain ⟨z, hz0⟩ : ∃ z, z = x * y := ⟨_, rfl⟩
          rw [← hz0] at hM hs
          have hsh := step_hi (z := z) (w := w) (o := o)
          have hsl := step_lo (z := z) (w := w) (o := o)
          have A1 := add64_p (z % 2 ^ 64) w
          have A2 := add64_p ((z % 2 ^ 64 + w) % 2 ^ 64) o
          obtain ⟨h1, hh1⟩ : ∃ h1, h1 = z / 2 ^ 64 := ⟨_, rfl⟩
          obtain ⟨l1, hl1⟩ : ∃ l1, l1 = z % 2 ^ 64 := ⟨_, rfl⟩
          rw [← hh1, ← hl1] at hM
          rw [← hl1] at A1 A2 hsh hsl
          rw [← hh1] at hsh
          obtain ⟨c, hc⟩ : ∃ c, c = (l1 + w) / 2 ^ 64 := ⟨_, rfl⟩
          obtain ⟨l2, hl2⟩ : ∃ l2, l2 = (l1 + w) % 2 ^ 64 := ⟨_, rfl⟩
          rw [← hl2] at A1 A2 hsh hsl
          rw [← hc] at A1 hsh
          obtain ⟨d, hd⟩ : ∃ d, d = (l2 + o) / 2 ^ 64 := ⟨_, rfl⟩
          obtain ⟨l3, hl3⟩ : ∃ l3, l3 = (l2 + o) % 2 ^ 64 := ⟨_, rfl⟩
          rw [← hd] at A2 hsh
          rw [← hl3] at A2 hsl
          have w1 : IntKind.i64.wrap ((i : Int) + k) = (i : Int) + k := wrap64s (by omega) (by omega)
          have w2 : ((i : Int) + k).toNat = i + k := by omega
          have w3 : IntKind.u64.wrap ((h1 : Int) + c) = ((h1 + c : Nat) : Int) := by rw [← Int.natCast_add, wrapu64, Nat.mod_eq_of_lt (by omega)]
          have w4 : IntKind.u64.wrap (((h1 + c : Nat) : Int) + d) = ((h1 + c + d : Nat) : Int) := by rw [← Int.natCast_add, wrapu64, Nat.mod_eq_of_lt (by omega)]
          obtain ⟨u, hu⟩ : ∃ u, u = h1 + c := ⟨_, rfl⟩
          obtain ⟨v, hv1⟩ : ∃ v, v = u + d := ⟨_, rfl⟩
          rw [← hu] at w3 w4 hsh
          rw [← hv1] at w4 hsh
          simp [k4]
          refine ⟨by omega, ?_⟩
          rw [← hy]
          refine WO_callP [] rfl rfl hM (by simp) (by simp) ?_
          simp [w1, w2]
          refine ⟨by omega, by omega, ?_⟩
          rw [← hw]
          refine WO_call rfl (A1 _) (by simp) ?_
          simp
          refine WO_call rfl (A2 _) (by simp) ?_
          simp [w1, w2, w3, w4]
          refine ⟨by omega, by omega, ⟨(k + 1, upd g' (i + k) l3, v), by simp only; omega, upd_lt hg' (by omega), by simp only; omega, fun j j1 j2 => ?_, ?_⟩, by simp only; omega, cut_w ?_⟩
          · simp only [upd]
            rw [if_neg (by omega)]
            exact hz' j j1 j2
          · simp only
            have E1 := vb_upd (g := g') (i := i + k) (v := l3) (m := 8) (by omega)
            rw [← hw] at E1
            have E2 : l3 + 2 ^ 64 * v = z + w + o := by omega
            rw [mod_next, ← hy]
            have E3 : x * (b % 2 ^ (64 * k) + 2 ^ (64 * k) * y) * 2 ^ (64 * i) = x * (b % 2 ^ (64 * k)) * 2 ^ (64 * i) + z * 2 ^ (64 * (i + k)) := by
              rw [hz0, Nat.mul_add, Nat.add_mul, show 64 * (i + k) = 64 * k + 64 * i by omega, Nat.pow_add]
              congr 1
              ac_rfl
            have E4 : v * 2 ^ (64 * (i + (k + 1))) = 2 ^ 64 * v * 2 ^ (64 * (i + k)) := by
              rw [show 64 * (i + (k + 1)) = 64 + 64 * (i + k) by omega, Nat.pow_add]; ac_rfl
            rw [E3, E4]
            have E5 := congrArg (· * 2 ^ (64 * (i + k))) E2
            simp only [Nat.add_mul] at E5
            omega
          · have w5 : IntKind.i64.wrap ((k : Int) + 1) = (k : Int) + 1 := wrap64s (by omega) (by omega)
            simp [w5]
        · have hk4 : k = 4 := by omega
          rw [hb4 k hk4] at hv'
          subst hk4
          have w1 : IntKind.i64.wrap ((i : Int) + 4) = (i : Int) + 4 := wrap64s (by omega) (by omega)
          have w2 : ((i : Int) + 4).toNat = i + 4 := by omega
          simp [w1, w2]
          refine ⟨by omega, by omega, ⟨(i + 1, upd g' (i + 4) o), by simp only; omega, upd_lt hg' ho, fun j j1 j2 => ?_, ?_⟩, by simp only; omega, cut_w ?_⟩
          · simp only [upd]
            rw [if_neg (by omega)]
            exact hz' j (by omega) j2
          · simp only
            have E1 := vb_upd (g := g') (i := i + 4) (v := o) (m := 8) (by omega)
            rw [hz' (i + 4) (by omega) (by omega), Nat.zero_mul, Nat.add_zero] at E1
            refine E1.trans (hv'.trans ?_)
            rw [mod_next, ← hx, Nat.add_mul]
            have E3 : 2 ^ (64 * i) * x * b = x * b * 2 ^ (64 * i) := by ac_rfl
            rw [E3]
          · have w5 : IntKind.i64.wrap ((i : Int) + 1) = (i : Int) + 1 := wrap64s (by omega) (by omega)
            simp [w5]
    · have hi4 : i = 4 := by omega
      rw [ha4 i hi4] at hv
      simp
      have hsp := vb_split g 4 4
      rw [hv] at hsp
      obtain ⟨lo, hlo⟩ : ∃ lo, lo = vb g 4 := ⟨_, rfl⟩
      obtain ⟨hh, hhh⟩ : ∃ hh, hh = vb (fun k => g (4 + k)) 4 := ⟨_, rfl⟩
      rw [← hlo, ← hhh] at hsp
      have hfin : (lo + 38 * hh) % p = a * b % p := by
        rw [hsp, show 64 * 4 = 256 from rfl, h38]
      clear hsp hv hz
      refine W_loop (X := { v : Nat × (Nat → Nat) × Nat // v.1 ≤ 4 ∧ (∀ j, j < 4 → v.2.1 j < 2 ^ 64) ∧ v.2.2 < 2 ^ 64 ∧ vb v.2.1 v.1 + v.2.2 * 2 ^ (64 * v.1) = vb g v.1 + 38 * vb (fun k => g (4 + k)) v.1 })
        (fun v => [(4, .ptr 2 0), (5, .ptr 3 0), (15, .ptr 4 0), (16, .int .u64 (v.1.2.2 : Nat)), (70, .int .i64 v.1.1)])
        (fun v => [some ⟨q4 a, 49, true⟩, some ⟨q4 b, 49, true⟩, some ⟨q4 0, 49, true⟩, some ⟨arr .u64 8 g, 180, true⟩, some ⟨arr .u64 4 v.1.2.1, 49, true⟩])
        (fun v => 4 - v.1.1) ⟨(0, fun _ => 0, 0), by simp, fun _ _ => by simp, by simp, by simp [vb]⟩ retPost_le ?_ ?_
      · have hz4 : arr .u64 4 (fun _ => 0) = [.int .u64 0, .int .u64 0, .int .u64 0, .int .u64 0] := rfl
        exact cut_w (by simp [hz4])
      · rintro ⟨⟨k, h, o⟩, hk, hh', ho, hv'⟩
        simp only at hk hh' ho hv' ⊢
        simp
        refine WC_dec (fun hlt => ?_) (fun hlt => ?_)
        · have k4 : k < 4 := by omega
          obtain ⟨x, hx⟩ : ∃ x, x = g (4 + k) := ⟨_, rfl⟩
          obtain ⟨w, hw⟩ : ∃ w, w = g k := ⟨_, rfl⟩
          have hx64 : x < 2 ^ 64 := by rw [hx]; exact hg _ (by omega)
          have hw64 : w < 2 ^ 64 := by rw [hw]; exact hg _ (by omega)
          have hM := fMul64_spec x 38 hx64 (by decide)
          have hs := step_lt hx64 (show 38 < 2 ^ 64 by decide) hw64 ho
          obtain ⟨z, hz0⟩ : ∃ z, z = x * 38 := ⟨_, rfl⟩
          rw [← hz0] at hM hs
          have hsh := step_hi (z := z) (w := w) (o := o)
          have hsl := step_lo (z := z) (w := w) (o := o)
          have A1 := add64_p (z % 2 ^ 64) w
          have A2 := add64_p ((z % 2 ^ 64 + w) % 2 ^ 64) o
          obtain ⟨h1, hh1⟩ : ∃ h1, h1 = z / 2 ^ 64 := ⟨_, rfl⟩
          obtain ⟨l1, hl1⟩ : ∃ l1, l1 = z % 2 ^ 64 := ⟨_, rfl⟩
          rw [← hh1, ← hl1] at hM
          rw [← hl1] at A1 A2 hsh hsl
          rw [← hh1] at hsh
          obtain ⟨c, hc⟩ : ∃ c, c = (l1 + w) / 2 ^ 64 := ⟨_, rfl⟩
          obtain ⟨l2, hl2⟩ : ∃ l2, l2 = (l1 + w) % 2 ^ 64 := ⟨_, rfl⟩
          rw [← hl2] at A1 A2 hsh hsl
          rw [← hc] at A1 hsh
          obtain ⟨d, hd⟩ : ∃ d, d = (l2 + o) / 2 ^ 64 := ⟨_, rfl⟩
          obtain ⟨l3, hl3⟩ : ∃ l3, l3 = (l2 + o) % 2 ^ 64 := ⟨_, rfl⟩
          rw [← hd] at A2 hsh
          rw [← hl3] at A2 hsl
          have w1 : IntKind.i64.wrap ((k : Int) + 4) = (k : Int) + 4 := wrap64s (by omega) (by omega)
          have w2 : ((k : Int) + 4).toNat = 4 + k := by omega
          have w3 : IntKind.u64.wrap ((h1 : Int) + c) = ((h1 + c : Nat) : Int) := by rw [← Int.natCast_add, wrapu64, Nat.mod_eq_of_lt (by omega)]
          have w4 : IntKind.u64.wrap (((h1 + c : Nat) : Int) + d) = ((h1 + c + d : Nat) : Int) := by rw [← Int.natCast_add, wrapu64, Nat.mod_eq_of_lt (by omega)]
          obtain ⟨u, hu⟩ : ∃ u, u = h1 + c := ⟨_, rfl⟩
          obtain ⟨v, hv1⟩ : ∃ v, v = u + d := ⟨_, rfl⟩
          rw [← hu] at w3 w4 hsh
          rw [← hv1] at w4 hsh
          simp [k4, w1, w2]
          refine ⟨by omega, by omega, ?_⟩
          rw [← hx]
          refine WO_callP [] rfl rfl hM (by simp) (by simp) ?_
          simp
          refine ⟨by omega, by omega, ?_⟩
          rw [← hw]
          refine WO_call rfl (A1 _) (by simp) ?_
          simp
          refine WO_call rfl (A2 _) (by simp) ?_
          simp [w3, w4]
          refine ⟨by omega, by omega, ⟨(k + 1, upd h k l3, v), by simp only; omega, upd_lt hh' (by omega), by simp only; omega, ?_⟩, by simp only; omega, cut_w ?_⟩
          · simp only [vb]
            rw [vb_upd_out (Nat.le_refl _), ← hx, ← hw]
            have E2 : l3 + 2 ^ 64 * v = z + w + o := by omega
            have E4 : v * 2 ^ (64 * (k + 1)) = 2 ^ 64 * v * 2 ^ (64 * k) := by
              rw [show 64 * (k + 1) = 64 + 64 * k by omega, Nat.pow_add]; ac_rfl
            have E5 := congrArg (· * 2 ^ (64 * k)) E2
            simp only [Nat.add_mul] at E5
            have E6 : upd h k l3 k = l3 := if_pos rfl
            have E7 : z * 2 ^ (64 * k) = 38 * (x * 2 ^ (64 * k)) := by rw [hz0]; ac_rfl
            rw [E4, E6]
            omega
          · have w5 : IntKind.i64.wrap ((k : Int) + 1) = (k : Int) + 1 := wrap64s (by omega) (by omega)
            simp [w5]
        · have hk4 : k = 4 := by omega
          rw [hk4] at hv'
          rw [← hlo, ← hhh] at hv'
          have hF := hfold (vb h 4) o (vb_lt hh') ho
          rw [Nat.mul_comm (2 ^ 256) o] at hF
          have hv2 : vb h 4 + o * 2 ^ 256 = lo + 38 * hh := hv'
          rw [hv2, hfin] at hF
          rw [q4_vb hh']
          subst hk4
          simp
          refine WO_callP [] rfl rfl hF (by simp) (by simp) ?_
          simp
          exact fin_W (by simp)
theorem fFdOdd_spec (a : Nat) : FSpec Try.prog 83 [.agg (q4 a)] [] (.bool (decide (a % 2 = 1))) [] := by
  have h1 := and1_u64 (wd_lt a 0)
  have h2 : wd a 0 % 2 = a % 2 := by rw [wd0]; omega
  rw [h2] at h1
  obtain ⟨r, hr⟩ : ∃ r, r = a % 2 := ⟨_, rfl⟩
  rw [← hr] at h1 ⊢
  refine FSpec.of_W fFdOdd_low (by simp) ?_
  simp only [initEnv]
  simp [h1]
  exact fin_W (by simp; omega)
theorem fFdNeg_spec (a : Nat) (ha : a < p25) : FSpec Try.prog 69 [.agg (q4 a)] [] (.agg (q4 (negP a))) [] := by
  have hM := fFdModulus_spec
  have hp := p25_lt
  simp only [negP]
  generalize p25 = p at *
  have hm := fFdMinus_spec p a (by omega)
  refine FSpec.of_W fFdNeg_low (by simp) ?_
  simp only [initEnv]
  simp
  rw [← q4_zero]
  refine ⟨hasK_q4 0, ?_⟩
  refine WC_dec (fun h => ?_) (fun h => ?_)
  · rw [ints_q4 (m := a) (n := 0) (by omega) (by decide)] at h
    rw [if_pos h]
    simp
    exact fin_W (by simp [h])
  · rw [ints_q4 (m := a) (n := 0) (by omega) (by decide)] at h
    rw [if_neg h]
    simp
    refine WO_callP [] rfl rfl hM (by simp) (by simp) ?_
    simp
    refine WO_callP [] rfl rfl hm (by simp) (by simp) ?_
    simp
    exact fin_W (by simp)
/-! Elements as cells. -/
def els1 (x : Nat) : List AV := q4 x
def els (l : List Nat) : List AV := l.flatMap els1
@[simp] theorem els_nil : els [] = [] := rfl
@[simp] theorem els_cons (x : Nat) (l : List Nat) : els (x :: l) = els1 x ++ els l := by simp [els]
@[simp] theorem els1_length (x : Nat) : (els1 x).length = 4 := rfl
@[simp] theorem els_length (l : List Nat) : (els l).length = l.length * 4 := by
  induction l with
  | nil => rfl
  | cons i l ih => simp [ih]; omega
@[simp] theorem els_drop (l : List Nat) (i : Nat) : (els l).drop (i * 4) = els (l.drop i) := by
  induction l generalizing i with
  | nil => simp
  | cons x l ih =>
    cases i with
    | zero => simp
    | succ i => rw [els_cons, List.drop_succ_cons, ← ih i, show (i + 1) * 4 = (els1 x).length + i * 4 by rw [els1_length]; omega, List.drop_length_add_append]
@[simp] theorem els_take (l : List Nat) (i : Nat) : (els l).take (i * 4) = els (l.take i) := by
  induction l generalizing i with
  | nil => simp
  | cons x l ih =>
    cases i with
    | zero => simp
    | succ i => rw [els_cons, List.take_succ_cons, els_cons, ← ih i, show (i + 1) * 4 = (els1 x).length + i * 4 by rw [els1_length]; omega, List.take_length_add_append]
@[simp] theorem ltL_els (n : Nat) (l : List Nat) : ltL n (els l) = true := ltL_flatMap _ fun x => by simp [els1]
@[simp] theorem ids_els (q : Nat → Bool) (l : List Nat) : idsL q (els l) = true := idsL_flatMap _ fun x => by simp [els1]
@[simp] theorem sub_els (s : Nat → Nat → Nat → Nat → Option Nat → AV) (p : Nat → Nat → AV) (l : List Nat) : subL s p (els l) = els l := subL_flatMap _ fun x => by simp [els1]
@[simp] theorem cleanL_els (l : List Nat) : cleanL (els l) = true := cleanL_flatMap _ fun x => by simp [els1]
theorem sum_take (l : List Nat) (i : Nat) (h : i < l.length) : (l.take (i + 1)).sum = (l.take i).sum + l[i] := by
  rw [List.take_add_one, List.getElem?_eq_getElem h, Option.toList_some, List.sum_append, List.sum_singleton]
theorem fFdAdd_spec (l : List Nat) (md : Md) (h : ∀ x ∈ l, x < 2 ^ 255) (hl : l.length < 2 ^ 40) : FSpec Try.prog 65 [.list 4 md (els l)] [] (.agg (q4 (l.sum % p25))) [] := by
  have hF := fFdFolded_spec
  have hp := p25_lt
  have hpos := p25_pos
  generalize p25 = p at *
  refine FSpec.of_W fFdAdd_low (by simp) ?_
  simp only [initEnv]
  simp
  refine W_loop (X := { i : Nat // i ≤ l.length }) (fun i => [(2, .ptr 0 0), (3, .ptr 1 0), (8, .list 4 md (els l)), (9, .int .i64 l.length), (10, .int .i64 i.1)])
    (fun i => [some ⟨q4 0, 49, true⟩, some ⟨q4 ((l.take i.1).sum % p), 49, true⟩]) (fun i => l.length - i.1) ⟨0, by simp⟩ retPost_le ?_ ?_
  · refine cut_w ?_
    simp [q4_zero]
  · rintro ⟨i, hi⟩
    simp only
    simp
    refine WC_dec (fun hlt => ?_) (fun hlt => ?_)
    · have hx : i < l.length := by omega
      have hd : l.drop i = l[i] :: l.drop (i + 1) := List.drop_eq_getElem_cons hx
      have hsum := sum_take l i hx
      have hxl := h l[i] (List.getElem_mem hx)
      obtain ⟨x, hxe⟩ : ∃ x, x = l[i] := ⟨_, rfl⟩
      rw [← hxe] at hd hsum hxl
      obtain ⟨s, hs⟩ : ∃ s, s = (l.take i).sum % p := ⟨_, rfl⟩
      have hs2 : s < 2 ^ 255 := by rw [hs]; have := Nat.mod_lt (l.take i).sum hpos; omega
      rw [← hs]
      simp [hd, els1, List.take_append]
      refine ⟨hx, ?_⟩
      refine W_loop (X := { j : Nat // j ≤ 4 }) (fun j => [(2, .ptr 0 0), (3, .ptr 1 0), (5, .ptr 2 0), (6, .int .u64 (car s x j.1 : Nat)), (8, .list 4 md (els l)), (9, .int .i64 l.length), (10, .int .i64 i), (14, .int .i64 j.1)])
        (fun j => [some ⟨q4 0, 49, true⟩, some ⟨mx j.1 (s + x) s, 49, true⟩, some ⟨q4 x, 49, true⟩]) (fun j => 4 - j.1) ⟨0, by omega⟩ retPost_le ?_ ?_
      · exact cut_w (by simp [car_zero, mx_zero])
      · rintro ⟨j, hj⟩
        simp only
        simp
        refine WC_dec (fun hl => ?_) (fun hl => ?_)
        · have h4 : j < 4 := by omega
          simp [h4, hl]
          refine WO_call rfl (add64_q s x j _) (by simp) ?_
          simp [h4, hl]
          refine ⟨by omega, ⟨j + 1, by omega⟩, by simp; omega, ?_⟩
          exact cut_w (by simp [wrap64s (n := (j : Int) + 1) (by omega) (by omega)])
        · have h4 : j = 4 := by omega
          subst h4
          have hf := hF ((s + x) % 2 ^ 256) (car s x 4) (Nat.mod_lt _ (by decide)) (by have := car_le s x 4; omega)
          rw [car_top (show s < 2 ^ 256 by omega) (show x < 2 ^ 256 by omega), show (2 : Nat) ^ 256 = 115792089237316195423570985008687907853269984665640564039457584007913129639936 from rfl, q4_mod] at hf
          have hse : (s + x) % p = (l.take (i + 1)).sum % p := by rw [hsum, hs, Nat.mod_add_mod]
          rw [hse] at hf
          simp [mx_four]
          refine WO_callP [] rfl rfl hf (by simp) (by simp) ?_
          simp
          refine ⟨⟨i + 1, hx⟩, by simp; omega, cut_w ?_⟩
          simp [wrap64s (n := (i : Int) + 1) (by omega) (by omega)]
    · have : i = l.length := by omega
      subst this
      simp [List.take_of_length_le]
      exact fin_W (by simp)
def mulP (l : List Nat) : Nat := l.foldl (fun x y => x * y % p25) 1
theorem mulP_lt (l : List Nat) : mulP l < p25 := by
  have : ∀ (l : List Nat) (a : Nat), a < p25 → l.foldl (fun x y => x * y % p25) a < p25 := by
    intro l
    induction l with
    | nil => intro a h; exact h
    | cons x l ih => intro a h; exact ih _ (Nat.mod_lt _ p25_pos)
  exact this l 1 (by decide)
theorem mulP_take (l : List Nat) (i : Nat) (h : i < l.length) : mulP (l.take (i + 1)) = mulP (l.take i) * l[i] % p25 := by
  unfold mulP
  rw [List.take_add_one, List.getElem?_eq_getElem h, Option.toList_some, List.foldl_append]
  rfl
theorem fFdMul_spec (l : List Nat) (md : Md) (h : ∀ x ∈ l, x < 2 ^ 255) (hl : l.length < 2 ^ 40) : FSpec Try.prog 63 [.list 4 md (els l)] [] (.agg (q4 (mulP l))) [] := by
  have hp := p25_lt
  have hS := fFdSmall_spec 1 (by decide)
  refine FSpec.of_W fFdMul_low (by simp) ?_
  simp only [initEnv]
  simp
  refine WO_callP [] rfl rfl hS (by simp) (by simp) ?_
  simp
  refine W_loop (X := { i : Nat // i ≤ l.length }) (fun i => [(2, .ptr 0 0), (3, .ptr 1 0), (7, .list 4 md (els l)), (8, .int .i64 l.length), (9, .int .i64 i.1)])
    (fun i => [some ⟨q4 0, 49, true⟩, some ⟨q4 (mulP (l.take i.1)), 49, true⟩]) (fun i => l.length - i.1) ⟨0, by simp⟩ retPost_le ?_ ?_
  · refine cut_w ?_
    simp [q4_zero, mulP]
  · rintro ⟨i, hi⟩
    simp only
    simp
    refine WC_dec (fun hlt => ?_) (fun hlt => ?_)
    · have hx : i < l.length := by omega
      have hd : l.drop i = l[i] :: l.drop (i + 1) := List.drop_eq_getElem_cons hx
      have hm := mulP_take l i hx
      have hml := mulP_lt (l.take i)
      have hxl := h l[i] (List.getElem_mem hx)
      obtain ⟨x, hxe⟩ : ∃ x, x = l[i] := ⟨_, rfl⟩
      rw [← hxe] at hd hm hxl
      have hT := fFdTimes_spec (mulP (l.take i)) x (by omega) (by omega)
      rw [← hm] at hT
      simp [hd, els1, List.take_append]
      refine ⟨hx, ?_⟩
      refine WO_callP [] rfl rfl hT (by simp) (by simp) ?_
      simp
      refine ⟨⟨i + 1, hx⟩, by simp; omega, cut_w ?_⟩
      simp [wrap64s (n := (i : Int) + 1) (by omega) (by omega)]
    · have : i = l.length := by omega
      subst this
      simp [List.take_of_length_le]
      exact fin_W (by simp)
end Go.Proofs.Ythgibibeoapfbaa
