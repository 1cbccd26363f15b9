/-
  The document's field: squares.
-/
import Derived.Test.YtcmjfjomfdljkaabQ9
set_option linter.unusedSimpArgs false
set_option linter.unnecessarySimpa false
set_option linter.unusedVariables false
set_option linter.unusedSectionVars false
namespace Go.Proofs.Ytcmjfjomfdljkaa
open Go Go.Fw
attribute [local simp] bv cleanL_bv toBytes_bv ltL_bv atF_drop WS_at_bytes W_nil W_skip W_seq W_reg W_draw W_drawP W_kill W_keep W_block W_blk W_exit W_ret WX_blk WX_c WX_lp WX_li W_li W_condT W_condF W_cond WC_true WC_false
  WR_nil WR_cons WR_o1 WR_o2 o1_chk o2_chk WR_grd WG_tt WG_ff WG_tf WG_ft WG_none WS_some WS_ok1 WSr_no WSr_some WSr_ok1 WSr_at_bytes WH_some WHA_some chkF_cons chkF_nil chkE_some chkE_ok1 chkE_at evF WO_mv WO_pick WO_bin WO_isNil WO_eqA WO_un WO_convI WO_toStr WO_ofStr WO_build WO_buildF WO_load WO_nilCheck WO_fieldAddr WO_field WO_idxA WO_idxS
  WO_ixA WO_slS WO_slA WO_len WO_lenK WO_appF WO_extract WO_s2a WO_iface WO_min WO_max WO_alloc WO_box WO_buildO WO_store WO_appO WO_copy WO_makeS WO_allocA WO_makeA WO_cvt cvtF_slice WO_look lookF_map alAF mkAF WO_func bind1_v bind2_v bindH_v bindH2_v bindS_v okO_v pickO_t pickO_f
  Env.keep Env.get Env.set Env.del Env.dels Env.setO Env.opd Env.opds Env.opdO Env.parts intF aggF fillA splice cleanL AV.clean bndF fldF_one fldF_many toStrF boxF buildOF
  loadF_rptr loadF_rptrN atF_zero atF_succ blk_cons_zero blk_cons_succ loadF_p loadF_pN atB_some atBN_some retPost resL one
  okc_bool cells_bool notStr_bool okc_int cells_int notStr_int okc_str cells_str notStr_str okc_nil cells_nil notStr_nil okc_ptr cells_ptr notStr_ptr okc_rptr cells_rptr notStr_rptr okc_slice cells_slice notStr_slice 
  okc_list cells_list notStr_list okc_func cells_func notStr_func okc_nilFunc cells_nilFunc notStr_nilFunc okc_iface cells_iface notStr_iface okc_nilIface cells_nilIface notStr_nilIface okc_agg cells_agg notStr_agg 
  okc_tuple cells_tuple notStr_tuple lenF_slice lenF_list lenF_str faF_ptr faF_rptr idxSF_slice idxSF_list idxAF_ptr idxAF_rptr ixAF_many ixAF_one convF_int unF_neg unF_xor unF_not nilF_0nil nilF_0ptr nilF_0rptr nilF_1 
  nilF_2nil nilF_2f nilF_3nil nilF_3f binF_int binF_beq binF_bne binF_sadd binF_seq binF_sne sliceCells_list sliceCells_str sliceCells_slice cutC_some szAV_list szAV_str szAV_slice oneSl_list oneSl_slice slSF_sliceS 
  slSF_sliceN slSF_list slAF_rptr slAF_ptr appFF_list appOF_list appOF_sliceN appOF_sliceS storeF_ptr copyF_slice extF_tuple s2aF_slice s2aF_list nchkF_ptr nchkF_rptr nchkF_f mmF_int ofStrF_str mkSF_int eqAF_agg
attribute [local irreducible] W WX WR WO WS WSr WH WHA WG WC FSpec
attribute [local simp] lendAll
attribute [local congr] W_cg WR_cg WO_cg WS_cg WSr_cg WH_cg WHA_cg WG_cg WC_cg WX_cg
attribute [local simp] Env.has AV.wkr wkrL AV.wkr_refl wkrL_refl AV.ltI ltL leHW hasW Env.lt AV.ids idsL AV.sub subL AV.ren AV.frz frzS frzP frzE frzL Heap.frz Blk.frz Blk.ren renL rnS rnP hasR leR idsL_bv subL_bv
attribute [local simp] cleanL_take cleanL_drop ltL_take ltL_drop idsL_take idsL_drop subL_take subL_drop cleanL_append ltL_append idsL_append subL_append
attribute [local simp] renE mvN mvH
attribute [local simp] fwd backH putL bwd
attribute [local simp] u8i u8e List.idxOf_cons
attribute [local simp] hasRW leRW
attribute [local simp] WS_at_map WSr_at_map WS_at_q4 WSr_at_q4 WS_at_arr WSr_at_arr loadWP splice_full Int.natCast_inj arr_zero32 z17 z34 fill_zero arr_set arr_take
theorem dig_half (n k : Nat) : dig (n / 2) k = dig n k / 2 + 16384 * (dig n (k + 1) % 2) := by
  have h1 := dig_split n k
  have h2 := dig_split n (k + 1)
  have h3 := dig_lt n k
  rw [dig, Nat.div_div_eq_div_mul, Nat.mul_comm, ← Nat.div_div_eq_div_mul]
  omega
/-- Digits that are being halved. -/
def hlf (n i k : Nat) : Nat := if k + 1 < i then dig (n / 2) k else if k + 1 = i then dig n k / 2 else dig n k
theorem hlf_zero (n : Nat) : hlf n 0 = dig n := by funext k; unfold hlf; rw [if_neg (by omega), if_neg (by omega)]
theorem hlf_odd (n i : Nat) (h : 0 < i) (ho : dig n i % 2 = 1) : upd (upd (hlf n i) (i - 1) (hlf n i (i - 1) + 16384)) i (dig n i / 2) = hlf n (i + 1) := by
  funext k
  have e := dig_half n (i - 1)
  rw [show i - 1 + 1 = i by omega, ho] at e
  have e2 : hlf n i (i - 1) = dig n (i - 1) / 2 := by unfold hlf; rw [if_neg (by omega), if_pos (by omega)]
  rw [e2]
  unfold upd
  by_cases h1 : k = i
  · subst h1; rw [if_pos rfl]; unfold hlf; rw [if_neg (by omega), if_pos rfl]
  · rw [if_neg h1]
    by_cases h2 : k = i - 1
    · subst h2; rw [if_pos rfl]; unfold hlf; rw [if_pos (by omega), e]
    · rw [if_neg h2]
      unfold hlf
      by_cases h3 : k + 1 < i
      · rw [if_pos h3, if_pos (by omega)]
      · rw [if_neg h3, if_neg (by omega), if_neg (by omega), if_neg (by omega)]
theorem hlf_even (n i : Nat) (h : i = 0 ∨ dig n i % 2 = 0) : upd (hlf n i) i (dig n i / 2) = hlf n (i + 1) := by
  funext k
  unfold upd
  by_cases h1 : k = i
  · subst h1; rw [if_pos rfl]; unfold hlf; rw [if_neg (by omega), if_pos rfl]
  · rw [if_neg h1]
    by_cases h2 : k + 1 = i
    · have e := dig_half n k
      rw [h2, show dig n i % 2 = 0 by omega] at e
      unfold hlf; rw [if_neg (by omega), if_pos h2, if_pos (by omega), e]
      omega
    · unfold hlf
      by_cases h3 : k + 1 < i
      · rw [if_pos h3, if_pos (by omega)]
      · rw [if_neg h3, if_neg h2, if_neg (by omega), if_neg (by omega)]
theorem hlf_top (n : Nat) (hn : n < 2 ^ 255) : arr .i64 17 (hlf n 17) = q17 (n / 2) := by
  refine arr_ext fun k hk => ?_
  unfold hlf
  by_cases h1 : k + 1 < 17
  · rw [if_pos h1]
  · rw [if_neg h1, if_pos (by omega)]
    have e := dig_half n k
    have z : dig n (k + 1) = 0 := by
      rw [show k + 1 = 17 by omega, dig, Nat.div_eq_of_lt (by rw [← two255]; exact hn)]
    rw [e, z]; omega
theorem fQSquare_abs (p a : Nat) (hp : p < 2 ^ 255) (ha : a < p) (h1p : 1 < p) (r : Nat) (hr : r < p)
    (hP : FSpec Try.prog 35 [] [] (.agg (q17 p)) [])
    (h0 : FSpec Try.prog 44 [.int .i64 0] [] (.agg (q17 0)) [])
    (h1 : FSpec Try.prog 44 [.int .i64 1] [] (.agg (q17 1)) [])
    (hW : FSpec Try.prog 27 [.agg (q17 a), .agg (q4 ((p - 1) / 2))] [] (.agg (q17 r)) []) :
    FSpec Try.prog 31 [.agg (q17 a)] [] (.bool (decide (a = 0 ∨ r = 1))) [] := by
  have hU := fQUnder_spec p 1 hp (by omega)
  have hL := fQLimbs_spec ((p - 1) / 2) (by omega)
  have ht := hlf_top (p - 1) (by omega)
  have hhz := hlf_zero (p - 1)
  obtain ⟨n, hn⟩ : ∃ n, n = p - 1 := ⟨_, rfl⟩
  rw [← hn] at hU hL ht hW hhz
  have i17 : ∀ {x y : Nat}, x < 2 ^ 255 → y < 2 ^ 255 → (ints (q17 x) = ints (q17 y)) = (x = y) := ints_q17
  refine FSpec.of_W fQSquare_low (by simp) ?_
  simp only [initEnv]
  simp
  refine WO_callP [] rfl rfl h0 (by simp) (by simp) ?_
  simp
  refine ⟨⟨hasK_q17 a, hasK_q17 0⟩, ?_⟩
  refine WC_dec (fun h => ?_) (fun h => ?_)
  · rw [i17 (by omega) (by decide)] at h
    simp [h]
    exact fin_W (by simp)
  rw [i17 (by omega) (by decide)] at h
  simp
  refine WO_callP [] rfl rfl hP (by simp) (by simp) ?_
  simp
  refine WO_callP [] rfl rfl h1 (by simp) (by simp) ?_
  simp
  refine WO_callP [] rfl rfl hU (by simp) (by simp) ?_
  simp
  refine W_loop (X := { i : Nat // i ≤ 17 }) (fun i => [(1, .ptr 0 0), (3, .ptr 1 0), (4, .int .i64 i.1)]) (fun i => [some ⟨q17 a, 45, true⟩, some ⟨arr .i64 17 (hlf n i.1), 45, true⟩]) (fun i => 17 - i.1) ⟨0, by omega⟩ retPost_le ?_ ?_
  · exact cut_w (by simp [hhz, q17])
  · rintro ⟨i, hi⟩
    simp only
    simp
    refine WC_dec (fun hl => ?_) (fun hl => ?_)
    · have hdl := dig_lt n i
      have hii : hlf n i i = dig n i := by unfold hlf; rw [if_neg (by omega), if_neg (by omega)]
      have w1 : IntKind.i64.wrap ((i : Int) + 1) = (i : Int) + 1 := wrap64s (by omega) (by omega)
      have e1 : ((dig n i : Nat) : Int).tmod 2 = ((dig n i % 2 : Nat) : Int) := rfl
      have e2 : ((dig n i : Nat) : Int).tdiv 2 = ((dig n i / 2 : Nat) : Int) := rfl
      have hev := hlf_even n i
      have hod := hlf_odd n i
      have hil : 0 < i → hlf n i (i - 1) < 32768 := fun _ => by
        have := dig_lt n (i - 1)
        unfold hlf; rw [if_neg (by omega), if_pos (by omega)]; omega
      obtain ⟨x, hx⟩ : ∃ x, x = dig n i := ⟨_, rfl⟩
      rw [← hx] at hdl hii e1 e2 hev hod
      obtain ⟨y, hy⟩ : ∃ y, y = x % 2 := ⟨_, rfl⟩
      obtain ⟨z, hz⟩ : ∃ z, z = x / 2 := ⟨_, rfl⟩
      rw [← hy] at e1 hev hod
      rw [← hz] at e2 hev hod
      have e3 : IntKind.i64.wrap (z : Int) = z := wrap64 (by omega) (by omega)
      by_cases hi0 : i = 0
      · subst hi0
        have := hev (.inl rfl)
        simp [hii, e2, e3, this]
        exact ⟨⟨1, by omega⟩, by simp, cut_w (by simp; rfl)⟩
      · have hip : (0 : Int) < (i : Int) := by omega
        simp [hip, show 0 < i by omega, hii, e1]
        repeat (refine ⟨by omega, ?_⟩)
        refine WC_dec (fun hq => ?_) (fun hq => ?_)
        · have hy1 : y = 1 := by omega
          have hput := hod (by omega) hy1
          have hil' := hil (by omega)
          obtain ⟨w, hw⟩ : ∃ w, w = hlf n i (i - 1) := ⟨_, rfl⟩
          rw [← hw] at hput hil'
          obtain ⟨v, hv⟩ : ∃ v, v = w + 16384 := ⟨_, rfl⟩
          rw [← hv] at hput
          have f1 : IntKind.i64.wrap ((i : Int) - 1) = (i : Int) - 1 := wrap64s (by omega) (by omega)
          have f2 : ((i : Int) - 1).toNat = i - 1 := by omega
          have f3 : IntKind.i64.wrap ((w : Int) + 16384) = (v : Nat) := by rw [show (w : Int) + 16384 = (v : Nat) by omega]; exact wrap64 (by omega) (by omega)
          have f4 : upd (hlf n i) (i - 1) v i = x := by unfold upd; rw [if_neg (by omega), hii]
          simp [f1, f2, ← hw, f3, f4, e2, e3, hput]
          repeat (refine ⟨by omega, ?_⟩)
          exact ⟨⟨i + 1, by omega⟩, by simp; omega, cut_w (by simp [w1])⟩
        · have hy0 : y = 0 := by omega
          have hput := hev (.inr hy0)
          simp [hii, e2, e3, hput]
          repeat (refine ⟨by omega, ?_⟩)
          exact ⟨⟨i + 1, by omega⟩, by simp; omega, cut_w (by simp [w1])⟩
    · have hi17 : i = 17 := by omega
      subst hi17
      rw [ht]
      simp
      refine WO_callP [] rfl rfl hL (by simp) (by simp) ?_
      simp
      refine WO_callP [] rfl rfl hW (by simp) (by simp) ?_
      simp
      refine WO_callP [] rfl rfl h1 (by simp) (by simp) ?_
      simp
      refine ⟨⟨hasK_q17 r, hasK_q17 1⟩, ?_⟩
      refine fin_W ?_
      simp [h, i17 (show r < 2 ^ 255 by omega) (show 1 < 2 ^ 255 by decide)]
theorem fQSquare_spec (a : Nat) (ha : a < p25) : FSpec Try.prog 31 [.agg (q17 a)] [] (.bool (isSq a)) [] := by
  have h0 := fQSmall_spec 0 (by decide)
  have h1 := fQSmall_spec 1 (by decide)
  rw [Nat.mod_eq_of_lt (by decide)] at h0 h1
  have hW := fQPower_spec a ((p25 - 1) / 2) ha (by decide)
  have := fQSquare_abs p25 a p25_lt ha (by decide) _ (Nat.mod_lt _ p25_pos) fQP_spec h0 h1 hW
  have e : decide (a = 0 ∨ a ^ ((p25 - 1) / 2) % p25 = 1) = isSq a := by
    rw [Bool.eq_iff_iff, decide_eq_true_eq]
    simp only [isSq, Bool.or_eq_true, beq_iff_eq, Nat.mod_eq_of_lt ha]
    rw [pwm_eq _ _ _ _ (by decide +kernel)]
  rwa [e] at this
theorem fNum5_spec (N : Nat) (hN : N < 2 ^ 256) : FSpec Try.prog 24 [.agg (q4 N)] [] (.tuple [.agg (q4 (N % p25)), .agg (q17 (N % p25))]) [] := by
  have hF := fQFromLimbs_spec N hN
  have hm : N % p25 < p25 := Nat.mod_lt _ p25_pos
  have hL := fQLimbs_spec (N % p25) (by have := p25_lt; omega)
  generalize N % p25 = n at *
  refine FSpec.of_W fNum5_low (by simp) ?_
  simp only [initEnv]
  simp
  refine WO_callP [] rfl rfl hF (by simp) (by simp) ?_
  simp
  refine WO_callP [] rfl rfl hL (by simp) (by simp) ?_
  simp
  exact fin_W (by simp)
theorem fLike5_spec (x y : Nat) (hx : x < 2 ^ 256) (hy : y < 2 ^ 255) : FSpec Try.prog 25 [.agg (q4 x), .agg (q17 y)] [] (.bool (decide (x = y))) [] := by
  have hL := fQLimbs_spec y hy
  refine FSpec.of_W fLike5_low (by simp) ?_
  simp only [initEnv]
  simp
  refine WO_callP [] rfl rfl hL (by simp) (by simp) ?_
  simp
  refine fin_W ?_
  simp [ints_q4 hx (show y < 2 ^ 256 by omega)]
theorem fLives5_spec : FSpec Try.prog 23 [] [] (.bool true) [] := by
  have s1 := fFdSmall_spec 1 (by decide)
  have s2 := fFdSmall_spec 2 (by decide)
  have s3 := fFdSmall_spec 3 (by decide)
  have s4 := fFdSmall_spec 4 (by decide)
  have r4 := fFdRoot_spec 4 (by decide)
  have r2 := fFdRoot_spec 2 (by decide)
  have e4 : rootF 4 = (2, true) := by decide +kernel
  have e2 : (rootF 2).2 = false := by decide +kernel
  rw [e4] at r4
  rw [e2] at r2
  obtain ⟨w, hw⟩ : ∃ w, w = (rootF 2).1 := ⟨_, rfl⟩
  rw [← hw] at r2
  clear hw e2 e4
  have hA := fFdAdd_spec [1, 2] ⟨false, true, false⟩ (by intro x hx; simp at hx; rcases hx with rfl | rfl <;> decide) (by simp)
  rw [show [1, 2].sum % p25 = 3 by decide] at hA
  refine FSpec.of_W fLives5_low (by simp) ?_
  simp only [initEnv]
  simp
  refine WO_callP [] rfl rfl s4 (by simp) (by simp) ?_
  simp
  refine WO_callP [] rfl rfl r4 (by simp) (by simp) ?_
  simp
  refine WO_callP [] rfl rfl s2 (by simp) (by simp) ?_
  simp
  refine WO_callP [] rfl rfl r2 (by simp) (by simp) ?_
  simp
  refine WO_callP [] rfl rfl s2 (by simp) (by simp) ?_
  simp
  refine WO_callP [] rfl rfl s1 (by simp) (by simp) ?_
  simp
  refine WO_callP [] rfl rfl s2 (by simp) (by simp) ?_
  simp
  refine WO_callP (as' := [.list 4 ⟨false, true, false⟩ (els [1, 2])]) [] rfl (by simp [els1]) hA (by simp [els1]) (by simp) ?_
  simp
  refine WO_callP [] rfl rfl s3 (by simp) (by simp) ?_
  simp
  exact fin_W (by simp)
theorem fFieldBytes_spec (l : List UInt8) (hl : l.length = 32) (n : Nat) (hn : n < 2 ^ 64) : FSpec Try.prog 10 [.agg (l.map bv), .int .u64 (n : Nat)] [] (.bool true) [] := by
  have hF := fQFromBytes_spec l hl
  have hD := fFdDecode_spec l hl
  have hlt : byN l < 2 ^ 256 := by have := byN_lt l; rw [hl] at this; exact this
  have hbl := byL_byN l
  rw [hl] at hbl
  obtain ⟨N, hN⟩ : ∃ N, N = byN l := ⟨_, rfl⟩
  rw [← hN] at hF hD hlt hbl
  have hE := fFdEncode_spec N
  rw [hbl] at hE
  have hS := fFdSmall_spec n hn
  have hq4n : q4 n = [.int .u64 (n : Nat), .int .u64 0, .int .u64 0, .int .u64 0] := by
    have := q4_mk (a := n) (b := 0) (c := 0) (d := 0) hn (by decide) (by decide) (by decide)
    simpa [mk4] using this
  have hpl := p25_lt
  have hP := fQP_spec
  obtain ⟨m, hm⟩ : ∃ m, m = N % 2 ^ 255 := ⟨_, rfl⟩
  have hml : m < 2 ^ 255 := by rw [hm]; exact Nat.mod_lt _ (by decide)
  have hL := fQLess_spec m p25 hml hpl
  have hLk := fLike5_spec N m hlt hml
  have hcase : decide (2 ^ 255 ≤ N) = true → ¬ N < p25 := fun h => by have := of_decide_eq_true h; omega
  have hcase2 : decide (2 ^ 255 ≤ N) = false → m = N := fun h => by have := of_decide_eq_false h; rw [hm]; exact Nat.mod_eq_of_lt (by omega)
  obtain ⟨q, hq⟩ : ∃ q, q = decide (2 ^ 255 ≤ N) := ⟨_, rfl⟩
  rw [← hq] at hcase hcase2
  rw [← hq, ← hm] at hF
  clear hq hm
  rw [decP] at hD
  generalize p25 = p at *
  refine FSpec.of_W fFdBytes_low (by simp) ?_
  simp only [initEnv]
  simp
  refine WO_callP [] rfl rfl fLives5_spec (by simp) (by simp) ?_
  have ht : (l.map bv).take 32 = l.map bv := List.take_of_length_le (by simp [hl])
  have hlen : (l.map bv).length = 32 := by simp [hl]
  simp [ht]
  refine ⟨by omega, ?_⟩
  refine WO_callP [] rfl rfl hF (by simp) (by simp) ?_
  simp [ht, hl]
  by_cases h : N < p
  · rw [if_pos h] at hD
    refine WO_callP [] rfl rfl hD (by simp) (by simp) ?_
    have hq : q = false := by
      cases q
      · rfl
      · exact absurd h (hcase rfl)
    have hmN := hcase2 hq
    simp [hq]
    refine WO_callP [] rfl rfl hP (by simp) (by simp) ?_
    simp
    refine WO_callP [] rfl rfl hL (by simp) (by simp) ?_
    rw [hmN] at hLk
    simp only [decide_true] at hLk
    simp [hmN, h]
    refine WO_callP [] rfl rfl hLk (by simp) (by simp) ?_
    simp [ht, hl]
    refine WO_callP [] rfl rfl hE (by simp) (by simp [ht, hl]) ?_
    simp
    refine ⟨hasK_bytes l hl, ?_⟩
    refine WO_callP [] rfl rfl hS (by simp) (by simp [ht, hl]) ?_
    simp
    rw [← hq4n]
    exact ⟨hasK_q4 n, fin_W (by simp)⟩
  · rw [if_neg h] at hD
    refine WO_callP [] rfl rfl hD (by simp) (by simp) ?_
    cases hq : q
    · have hmN := hcase2 hq
      simp
      refine WO_callP [] rfl rfl hP (by simp) (by simp) ?_
      simp
      refine WO_callP [] rfl rfl hL (by simp) (by simp) ?_
      simp [hmN, h, ← q4_zero]
      exact fin_W (by simp)
    · simp [← q4_zero]
      exact fin_W (by simp)
end Go.Proofs.Ytcmjfjomfdljkaa
