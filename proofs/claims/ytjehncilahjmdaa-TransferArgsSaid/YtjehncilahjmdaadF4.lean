/-
  Flash: torn.
-/
import Derived.Test.YtjehncilahjmdaadF3
import Derived.Test.YtjehncilahjmdaaL2
set_option linter.unusedSimpArgs false
set_option linter.unnecessarySimpa false
set_option linter.unusedVariables false
set_option linter.unusedSectionVars false
namespace Go.Proofs.Ytjehncilahjmdaa
open Go Go.Fw
attribute [local simp] bv cleanL_bv toBytes_bv ltL_bv atF_drop WS_at_bytes W_nil W_skip W_seq W_reg W_draw W_drawP W_kill W_keep W_block W_blk W_exit W_ret WX_blk WX_c WX_lp WX_li W_li W_condT W_condF W_cond WC_true WC_false
  WR_nil WR_cons WR_o1 WR_o2 o1_chk o2_chk WR_grd WG_tt WG_ff WG_tf WG_ft WG_none WS_some WS_ok1 WSr_no WSr_some WSr_ok1 WSr_at_bytes WH_some WHA_some chkF_cons chkF_nil chkE_some chkE_ok1 chkE_at evF WO_mv WO_pick WO_bin WO_isNil WO_eqA WO_un WO_convI WO_toStr WO_ofStr WO_build WO_buildF WO_load WO_nilCheck WO_fieldAddr WO_field WO_idxA WO_idxS
  WO_ixA WO_slS WO_slA WO_len WO_lenK WO_appF WO_extract WO_s2a WO_iface WO_min WO_max WO_alloc WO_box WO_buildO WO_store WO_appO WO_copy WO_makeS WO_allocA WO_makeA WO_cvt cvtF_slice WO_look lookF_map alAF mkAF WO_func bind1_v bind2_v bindH_v bindH2_v bindS_v okO_v pickO_t pickO_f
  Env.keep Env.get Env.set Env.del Env.dels Env.setO Env.opd Env.opds Env.opdO Env.parts intF aggF fillA splice cleanL AV.clean bndF fldF_one fldF_many toStrF boxF buildOF
  loadF_rptr loadF_rptrN atF_zero atF_succ blk_cons_zero blk_cons_succ loadF_p loadF_pN atB_some atBN_some retPost resL one
  okc_bool cells_bool notStr_bool okc_int cells_int notStr_int okc_str cells_str notStr_str okc_nil cells_nil notStr_nil okc_ptr cells_ptr notStr_ptr okc_rptr cells_rptr notStr_rptr okc_slice cells_slice notStr_slice 
  okc_list cells_list notStr_list okc_func cells_func notStr_func okc_nilFunc cells_nilFunc notStr_nilFunc okc_iface cells_iface notStr_iface okc_nilIface cells_nilIface notStr_nilIface okc_agg cells_agg notStr_agg 
  okc_tuple cells_tuple notStr_tuple lenF_slice lenF_list lenF_str faF_ptr faF_rptr idxSF_slice idxSF_list idxAF_ptr idxAF_rptr ixAF_many ixAF_one convF_int unF_neg unF_xor unF_not nilF_0nil nilF_0ptr nilF_0rptr nilF_1 
  nilF_2nil nilF_2f nilF_3nil nilF_3f binF_int binF_beq binF_bne binF_sadd binF_seq binF_sne sliceCells_list sliceCells_str sliceCells_slice cutC_some szAV_list szAV_str szAV_slice oneSl_list oneSl_slice slSF_sliceS 
  slSF_sliceN slSF_list slAF_rptr slAF_ptr appFF_list appOF_list appOF_sliceN appOF_sliceS storeF_ptr copyF_slice extF_tuple s2aF_slice s2aF_list nchkF_ptr nchkF_rptr nchkF_f mmF_int ofStrF_str mkSF_int eqAF_agg
attribute [local irreducible] W WX WR WO WS WSr WH WHA WG WC FSpec
attribute [local simp] lendAll
attribute [local congr] W_cg WR_cg WO_cg WS_cg WSr_cg WH_cg WHA_cg WG_cg WC_cg WX_cg
attribute [local simp] Env.has AV.wkr wkrL AV.wkr_refl wkrL_refl AV.ltI ltL leHW hasW Env.lt AV.ids idsL AV.sub subL AV.ren AV.frz frzS frzP frzE frzL Heap.frz Blk.frz Blk.ren renL rnS rnP hasR leR idsL_bv subL_bv
attribute [local simp] cleanL_take cleanL_drop ltL_take ltL_drop idsL_take idsL_drop subL_take subL_drop cleanL_append ltL_append idsL_append subL_append
attribute [local simp] renE mvN mvH
attribute [local simp] fwd backH putL bwd
attribute [local simp] u8i u8e List.idxOf_cons
attribute [local simp] hasRW leRW
attribute [local simp] WS_at_map WSr_at_map loadWP splice_full Int.natCast_inj
/-- The flash in the law: its bytes, with no power gone. -/
structure Fresh (f : Fl) : Prop where
  ok : f.Ok
  len : f.b.length = 256
  lo : f.lo = 0
  hi : f.hi = 0
  off : f.off = false
theorem fresh_prog {f : Fl} (hf : Fresh f) {d : List UInt8} {m : Nat} (hm : d.length = 4 * m) (hm2 : m ≤ 64) : progF f 0 d = wordsF m f 0 d := by
  have h1 := hf.len
  unfold progF
  rw [if_neg (by simp [hf.off]), if_neg (by omega), if_neg (by omega), if_neg]
  · rw [show d.length / 4 = m by omega]; rfl
  · simp only [lockd, hf.lo, hf.hi, decide_eq_true_eq]
    rintro ⟨_, k, _, _, _, h4, h5⟩
    omega
set_option maxRecDepth 100000 in
theorem fFlTears_spec (data : List UInt8) (md : Md) (after : Int) (tear : Nat) (ht : tear < 2 ^ 32) (hdl : data.length < 2 ^ 47) : FSpec Try.prog 3 [.list 1 md (data.map bv), .int .i64 after, .int .u32 (tear : Nat)] [] (.bool true) [] := by
  have hN := fFlNew_spec 1 (by decide) (by decide)
  have hF0 : Fresh (newF 1) := ⟨newF_ok (by decide), by simp only [newF, List.length_replicate], rfl, rfl, rfl⟩
  have hB0 : (newF 1).b = List.replicate 256 255 := rfl
  generalize newF 1 = f0 at *
  refine FSpec.of_W fFlTears_low (by simp) ?_
  simp only [initEnv]
  simp
  refine WO_call rfl fFlLives_spec (by simp) ?_
  by_cases hl : (256 : Int) < data.length
  · simp [hl]
    refine WO_call rfl fFlLives_spec (by simp) ?_
    simp
    exact fin_W (by simp)
  obtain ⟨m, hm⟩ : ∃ m, m = data.length / 4 := ⟨_, rfl⟩
  have e1 : (data.length : Int).tdiv 4 = (m : Nat) := by rw [hm]; rfl
  have e2 : IntKind.i64.wrap (m : Int) = m := wrap64 (by omega) (by omega)
  have e3 : IntKind.i64.wrap ((m : Int) * 4) = ((4 * m : Nat) : Int) := by rw [show (m : Int) * 4 = ((4 * m : Nat) : Int) by omega]; exact wrap64 (by omega) (by omega)
  push_cast at e3
  obtain ⟨d, hd⟩ : ∃ d, d = data.take (4 * m) := ⟨_, rfl⟩
  have hd4 : d.length = 4 * m := by rw [hd]; simp; omega
  have e4 : (4 * (m : Int)).toNat = 4 * m := by omega
  have e5 : (data.map bv).take (4 * m) = d.map bv := by rw [hd, List.map_take]
  simp [hl, e1, e2, e3, e4, e5]
  refine ⟨by omega, ?_⟩
  generalize ({ nl := md.nl, full := md.full && decide (4 * m = data.length), bw := md.bw } : Md) = md2
  refine WO_call rfl hN (by simp) ?_
  have n1 := e1
  by_cases hm0 : m = 0
  · subst hm0
    obtain rfl : d = [] := List.eq_nil_of_length_eq_zero (by omega)
    have hfs := fFlFail_spec f0 0 tear
    have hfo := failF_ok hF0.ok (n := 0) (t := tear) (by decide) ht
    have hc : (failF f0 0 tear).1 = 0 := rfl
    have ho : (failF f0 0 tear).2.off = false := hF0.off
    have hlo : (failF f0 0 tear).2.lo = 0 := hF0.lo
    have hhi : (failF f0 0 tear).2.hi = 0 := hF0.hi
    have hle : (failF f0 0 tear).2.b.length = 256 := hF0.len
    generalize failF f0 0 tear = r at *
    obtain ⟨c, f1⟩ := r
    simp only at *
    subst hc
    have F1 : Fresh f1 := ⟨hfo, hle, hlo, hhi, ho⟩
    have hp := fFlProg_spec f1 hfo 0 (by decide) [] md2 (by simp)
    rw [fresh_prog (m := 0) F1 rfl (by decide), wordsF] at hp
    simp
    refine WO_call rfl hfs (by simp) ?_
    simp
    refine WO_call rfl hp (by simp) ?_
    simp
    exact fin_W (by simp)
  · have e6 : (4 * (m : Int)).tdiv 4 = (m : Nat) := by rw [show 4 * (m : Int) = ((4 * m : Nat) : Int) by omega]; rw [show ((4 * m : Nat) : Int).tdiv 4 = ((4 * m / 4 : Nat) : Int) from rfl]; congr 1; omega
    have e7 : IntKind.u64.wrap (m : Int) = m := by rw [wrapu64, Nat.mod_eq_of_lt (by omega)]
    obtain ⟨N, hN64, hNw⟩ : ∃ N : Nat, N < 2 ^ 64 ∧ IntKind.u64.wrap after = N := by
      refine ⟨(after % 2 ^ 64).toNat, by omega, ?_⟩
      unfold IntKind.wrap
      simp [IntKind.signed, IntKind.bits]
      omega
    obtain ⟨n, hn⟩ : ∃ n, n = N % m := ⟨_, rfl⟩
    have hnm : n < m := by rw [hn]; exact Nat.mod_lt _ (by omega)
    have e8 : (N : Int).tmod m = (n : Nat) := by rw [hn]; rfl
    have e9 : IntKind.i64.wrap (n : Int) = n := wrap64 (by omega) (by omega)
    -- the flash behind each call
    obtain ⟨f1, hf1⟩ : ∃ f1 : Fl, f1 = { f0 with armed := true, left := n, tear := tear } := ⟨_, rfl⟩
    have hfail : failF f0 n tear = (0, f1) := by rw [failF, if_neg (by omega), hf1]
    have k1 : f1.Ok := by
      have := failF_ok hF0.ok (n := n) (t := tear) (by omega) ht
      rwa [hfail] at this
    have F1 : Fresh f1 := ⟨k1, by rw [hf1]; exact hF0.len, by rw [hf1]; exact hF0.lo, by rw [hf1]; exact hF0.hi, by rw [hf1]; exact hF0.off⟩
    have b1 : f1.b = List.replicate 256 255 := by rw [hf1]; exact hB0
    obtain ⟨ops, hw⟩ := wordsF_tear n m f1 0 d hnm hd4 (by rw [b1, List.length_replicate]; omega) (by
      rw [b1, List.drop_zero, List.take_replicate, Nat.min_eq_left (by omega)]
      exact above_and (above_rep hd4)) (by rw [hf1]) (by rw [hf1])
    rw [b1] at hw
    have hx := tornX_of (t := tear) hnm (show m ≤ 64 by omega) hd4
    rw [show f1.tear = tear by rw [hf1]] at hw
    have hp2 := fFlProg_spec f1 k1 0 (by decide) d md2 (by omega)
    have p2 := progF_ok k1 0 d
    obtain ⟨f2, hw, hf2, o2, lo2, hi2⟩ : ∃ f2 : Fl, wordsF m f1 0 d = (5, f2) ∧ f2.b = ovw (List.replicate 256 255) 0 (d.take (4 * n) ++ tornB (((List.replicate 256 (255 : UInt8)).drop (0 + 4 * n)).take 4) ((d.drop (4 * n)).take 4) (byL 4 tear)) ∧ f2.off = true ∧ f2.lo = f1.lo ∧ f2.hi = f1.hi := ⟨_, hw, rfl, rfl, rfl, rfl⟩
    rw [fresh_prog F1 hd4 (by omega), hw] at hp2 p2
    have hx2 : f2.b.take (4 * m) = tornX n m tear d := by rw [hf2]; exact hx
    have F3 : Fresh (powerF f2) := ⟨powerF_ok p2.1, p2.2.trans F1.len, lo2.trans F1.lo, hi2.trans F1.hi, rfl⟩
    have a3 : (powerF f2).armed = false := rfl
    have x3 : (powerF f2).b.take (4 * m) = tornX n m tear d := hx2
    have h3 := fFlPower_spec f2
    have h2 := fFlOff_spec f2
    rw [o2] at h2
    generalize powerF f2 = f3 at *
    have hlen3 := F3.len
    have hr3 := fFlRead_spec f3 F3.ok 0 (4 * m : Nat) (by decide)
    rw [show readF f3 0 (4 * m : Nat) = (tornX n m tear d, 0) by
      rw [readF, if_neg (by simp [F3.off]), if_neg (by omega), show (0 : Int).toNat = 0 from rfl, List.drop_zero, Int.toNat_natCast, x3]] at hr3
    have hab := tornX_above (t := tear) hnm hd4
    obtain ⟨ops4, hw4⟩ := wordsF_run m f3 0 d hd4 (by omega) (by rw [List.drop_zero, x3]; exact above_and hab) (by rw [a3]; intro q; cases q)
    have hp4 := fFlProg_spec f3 F3.ok 0 (by decide) d md2 (by omega)
    have p4 := progF_ok F3.ok 0 d
    obtain ⟨f4, hw4, hf4, o4⟩ : ∃ f4 : Fl, wordsF m f3 0 d = (0, f4) ∧ f4.b = ovw f3.b 0 d ∧ f4.off = false := ⟨_, hw4, rfl, F3.off⟩
    rw [fresh_prog F3 hd4 (by omega), hw4] at hp4 p4
    have x4 : f4.b.take (4 * m) = d := by
      have := ovw_get (b := f3.b) (o := 0) (l := d) (by omega)
      rw [hf4, ← hd4]; simpa using this
    have hr4 := fFlRead_spec f4 p4.1 0 (4 * m : Nat) (by decide)
    have l4 := p4.2
    simp only at l4
    rw [show readF f4 0 (4 * m : Nat) = (d, 0) by
      rw [readF, if_neg (by simp [o4]), if_neg (by omega), show (0 : Int).toNat = 0 from rfl, List.drop_zero, Int.toNat_natCast, x4]] at hr4
    have hfs := fFlFail_spec f0 n tear
    rw [hfail] at hfs
    have hxl := tornX_len (t := tear) hnm hd4
    have hlo : ∀ i, i < 4 * n → (tornX n m tear d).getD i 0 = d.getD i 0 := fun i => tornX_lo hnm hd4
    have hmid : ∀ i, 4 * n ≤ i → i < 4 * n + 4 → (tornX n m tear d).getD i 0 ||| d.getD i 0 = (tornX n m tear d).getD i 0 := fun i => tornX_mid hnm hd4
    have hhi : ∀ i, 4 * n + 4 ≤ i → i < 4 * m → (tornX n m tear d).getD i 0 = 255 := fun i => tornX_hi hnm hd4
    generalize tornX n m tear d = X at *
    clear hw hx hw4 hf2
    push_cast at hr3 hr4
    simp [hd4, e1, e2, e6, e7, hNw, e8, e9, hm0, show 0 < m by omega, show (0 : Int) < 4 * (m : Int) by omega]
    refine WO_call rfl hfs (by simp) ?_
    simp
    refine WO_call rfl hp2 (by simp) ?_
    simp [hd4, show ¬ (4 * (m : Int) = 0) by omega]
    refine WO_call rfl h2 (by simp) ?_
    simp
    refine WO_call rfl h3 (by simp) ?_
    simp [hd4]
    refine WO_call rfl hr3 (by simp) ?_
    simp [hxl]
    refine W_loop (X := { i : Nat // i ≤ 4 * m }) (fun i => [(7, .list 1 md2 (d.map bv)), (8, .ptr 0 0), (10, .int .i64 n), (12, .list 1 ⟨false, false, false⟩ (X.map bv)), (83, .int .i64 (4 * m : Nat)), (84, .int .i64 i.1)]) (fun _ => flP f3) (fun i => 4 * m - i.1) ⟨0, by simp⟩ retPost_le ?_ ?_
    · refine cut_w ?_
      simp [flP]
    · rintro ⟨i, hi⟩
      simp only
      have w1 : IntKind.i64.wrap (4 * (n : Int)) = 4 * (n : Int) := wrap64s (by omega) (by omega)
      have w2 : IntKind.i64.wrap (4 * (n : Int) + 4) = 4 * (n : Int) + 4 := wrap64s (by omega) (by omega)
      have w3 : IntKind.i64.wrap ((i : Int) + 1) = (i : Int) + 1 := wrap64s (by omega) (by omega)
      have dD : (default : UInt8) = 0 := rfl
      by_cases g0 : i < 4 * m
      · have c0 : (i : Int) < 4 * (m : Int) := by omega
        have iX : i < X.length := by omega
        have id : i < d.length := by omega
        have gX : X.getD i 0 = X[i] := by simp [List.getD_eq_getElem?_getD, iX]
        have gd : d.getD i 0 = d[i] := by simp [List.getD_eq_getElem?_getD, id]
        have next : LI 0 (fun i => [(7, .list 1 md2 (d.map bv)), (8, .ptr 0 0), (10, .int .i64 n), (12, .list 1 ⟨false, false, false⟩ (X.map bv)), (83, .int .i64 (4 * m)), (84, .int .i64 i.1)]) (fun _ => flP f3) (fun i => 4 * m - i.1) (⟨i, hi⟩ : { i : Nat // i ≤ 4 * m }) [(7, .list 1 md2 (d.map bv)), (8, .ptr 0 0), (10, .int .i64 n), (12, .list 1 ⟨false, false, false⟩ (X.map bv)), (83, .int .i64 (4 * m)), (84, .int .i64 ((i : Int) + 1))] (flP f3) := by
          refine ⟨⟨i + 1, g0⟩, by simp; omega, cut_w ?_⟩
          simp [flP]
        by_cases g1 : i < 4 * n
        · have c1 : (i : Int) < 4 * (n : Int) := by omega
          have hh := hlo i g1
          rw [gX, gd] at hh
          simp [c0, c1, w1, hd4, hxl, g0, hh, w3]
          exact next
        · have c1 : ¬ (i : Int) < 4 * (n : Int) := by omega
          by_cases g2 : i < 4 * n + 4
          · have c2 : (i : Int) < 4 * (n : Int) + 4 := by omega
            have hh := hmid i (by omega) g2
            rw [gX, gd] at hh
            have e10 : bitI .or .u8 (X[i].toNat : Int) (d[i].toNat : Int) = (X[i].toNat : Int) := by
              rw [bitI_or rfl X[i].toNat_lt d[i].toNat_lt, ← UInt8.toNat_or, hh]
            simp [c0, c1, c2, w1, w2, hd4, hxl, g0, e10, w3]
            exact next
          · have c2 : ¬ (i : Int) < 4 * (n : Int) + 4 := by omega
            have hh := hhi i (by omega) g0
            rw [gX] at hh
            simp [c0, c1, c2, w1, w2, hd4, hxl, g0, hh, w3]
            exact next
      · have : i = 4 * m := by omega
        subst this
        simp
        refine WO_call rfl hp4 (by simp) ?_
        simp [hd4]
        refine WO_call rfl hr4 (by simp) ?_
        simp
        exact fin_W (by simp)
set_option maxRecDepth 100000 in
theorem fFlashTears_law : ∀ args, AllFit Try.prog 8 Try.f3.params.toList args → FSpec Try.prog 3 args [] (.bool true) [] := by
  intro args has
  rw [show Try.f3.params.toList = [22, 3, 23] from by rw [Try.params3]] at has
  obtain ⟨a, as1, rfl, h1, has⟩ := all_cons has
  obtain ⟨b, as2, rfl, h2, has⟩ := all_cons has
  obtain ⟨c, as3, rfl, h3, has⟩ := all_cons has
  cases all_nil has
  obtain ⟨nl, full, x, rfl, hx⟩ := arg_bytes Try.underlying22 Try.underlying5 (by kernel_rfl) (by kernel_rfl) h1
  obtain ⟨y, _, _, rfl⟩ := arg_int Try.underlying3 h2
  obtain ⟨z, z1, z2, rfl⟩ := arg_int Try.underlying23 h3
  simp [IntKind.min, IntKind.max, IntKind.signed, IntKind.bits] at z1 z2
  obtain ⟨w, rfl⟩ : ∃ w : Nat, z = w := ⟨z.toNat, by omega⟩
  exact fFlTears_spec x _ y w (by omega) hx
end Go.Proofs.Ytjehncilahjmdaa
