/-
  The document's keeper.
-/
import Derived.Test.YtjehncilahjmdaadC9
import Derived.Test.YtjehncilahjmdaadD3
set_option linter.unusedSimpArgs false
set_option linter.unnecessarySimpa false
set_option linter.unusedVariables false
set_option linter.unusedSectionVars false
namespace Go.Proofs.Ytjehncilahjmdaa
open Go Go.Fw
attribute [local simp] bv cleanL_bv toBytes_bv ltL_bv atF_drop WS_at_bytes W_nil W_skip W_seq W_reg W_draw W_drawP W_kill W_keep W_block W_blk W_exit W_ret WX_blk WX_c WX_lp WX_li W_li W_condT W_condF W_cond WC_true WC_false
  WR_nil WR_cons WR_o1 WR_o2 o1_chk o2_chk WR_grd WG_tt WG_ff WG_tf WG_ft WG_none WS_some WS_ok1 WSr_no WSr_some WSr_ok1 WSr_at_bytes WH_some WHA_some chkF_cons chkF_nil chkE_some chkE_ok1 chkE_at evF WO_mv WO_pick WO_bin WO_isNil WO_eqA WO_un WO_convI WO_toStr WO_ofStr WO_build WO_buildF WO_load WO_nilCheck WO_fieldAddr WO_field WO_idxA WO_idxS
  WO_ixA WO_slS WO_slA WO_len WO_lenK WO_appF WO_extract WO_s2a WO_iface WO_min WO_max WO_alloc WO_box WO_buildO WO_store WO_appO WO_copy WO_makeS WO_allocA WO_makeA WO_cvt cvtF_slice WO_look lookF_map alAF mkAF WO_func bind1_v bind2_v bindH_v bindH2_v bindS_v okO_v pickO_t pickO_f
  Env.keep Env.get Env.set Env.del Env.dels Env.setO Env.opd Env.opds Env.opdO Env.parts intF aggF fillA splice cleanL AV.clean bndF fldF_one fldF_many toStrF boxF buildOF
  loadF_rptr loadF_rptrN atF_zero atF_succ blk_cons_zero blk_cons_succ loadF_p loadF_pN atB_some atBN_some retPost resL one
  okc_bool cells_bool notStr_bool okc_int cells_int notStr_int okc_str cells_str notStr_str okc_nil cells_nil notStr_nil okc_ptr cells_ptr notStr_ptr okc_rptr cells_rptr notStr_rptr okc_slice cells_slice notStr_slice 
  okc_list cells_list notStr_list okc_func cells_func notStr_func okc_nilFunc cells_nilFunc notStr_nilFunc okc_iface cells_iface notStr_iface okc_nilIface cells_nilIface notStr_nilIface okc_agg cells_agg notStr_agg 
  okc_tuple cells_tuple notStr_tuple lenF_slice lenF_list lenF_str faF_ptr faF_rptr idxSF_slice idxSF_list idxAF_ptr idxAF_rptr ixAF_many ixAF_one convF_int unF_neg unF_xor unF_not nilF_0nil nilF_0ptr nilF_0rptr nilF_1 
  nilF_2nil nilF_2f nilF_3nil nilF_3f binF_int binF_beq binF_bne binF_sadd binF_seq binF_sne sliceCells_list sliceCells_str sliceCells_slice cutC_some szAV_list szAV_str szAV_slice oneSl_list oneSl_slice slSF_sliceS 
  slSF_sliceN slSF_list slAF_rptr slAF_ptr appFF_list appOF_list appOF_sliceN appOF_sliceS storeF_ptr copyF_slice extF_tuple s2aF_slice s2aF_list nchkF_ptr nchkF_rptr nchkF_f mmF_int ofStrF_str mkSF_int eqAF_agg
attribute [local irreducible] W WX WR WO WS WSr WH WHA WG WC FSpec
attribute [local simp] lendAll
attribute [local congr] W_cg WR_cg WO_cg WS_cg WSr_cg WH_cg WHA_cg WG_cg WC_cg WX_cg
attribute [local simp] Env.has AV.wkr wkrL AV.wkr_refl wkrL_refl AV.ltI ltL leHW hasW Env.lt AV.ids idsL AV.sub subL AV.ren AV.frz frzS frzP frzE frzL Heap.frz Blk.frz Blk.ren renL rnS rnP hasR leR idsL_bv subL_bv
attribute [local simp] cleanL_take cleanL_drop ltL_take ltL_drop idsL_take idsL_drop subL_take subL_drop cleanL_append ltL_append idsL_append subL_append
attribute [local simp] renE mvN mvH
attribute [local simp] fwd backH putL bwd
attribute [local simp] u8i u8e List.idxOf_cons
attribute [local simp] hasRW leRW
attribute [local simp] WS_at_map WSr_at_map loadWP splice_full Int.natCast_inj
/-- The document's flash, and what it remembers. -/
def mdP (s : Fl × Rec) : Heap := rflP s.1 ++ [some ⟨[.ptr 0 0] ++ recR s.2 ⟨false, false, false⟩, 83, true⟩]
set_option maxRecDepth 100000 in
theorem fTrMRem_spec (s : Fl × Rec) (hs : TOk s) (phase : UInt8) (done : Nat) (hd : done < 2 ^ 32) (init : List UInt8) (md : Md) (hm : md.bw = false) (hi : init.length < 2 ^ 40) : FSpec Try.prog 72 [.ptr 3 0, bv phase, .int .u32 (done : Nat), .list 1 md (init.map bv)] (mdP s) (.int .i64 (trSave s phase done init).1) (mdP (trSave s phase done init).2) := by
  obtain ⟨n, hn⟩ : ∃ n : Rec, n = { s.2 with phase := phase, done := done, init := init } := ⟨_, rfl⟩
  have hnk : n.Ok := by rw [hn]; exact ⟨hs.r.seq, hs.r.floor, hs.r.bytes, hs.r.sum, hd, hi⟩
  have hsv := fRSetSave_spec s.1 hs.f n hnk md hm
  obtain ⟨R, hR⟩ : ∃ R, R = trSave s phase done init := ⟨_, rfl⟩
  rw [← hR]
  unfold trSave at hR
  simp only at hR
  rw [← hn] at hR
  generalize saveS s.1 n = x at *
  obtain ⟨y, e, g⟩ := x
  simp only at hR hsv
  simp only [recR, svR] at hsv
  have n1 : n.seq = s.2.seq ∧ n.floor = s.2.floor ∧ n.bytes = s.2.bytes ∧ n.sum = s.2.sum ∧ n.phase = phase ∧ n.done = done ∧ n.init = init := by rw [hn]; simp
  obtain ⟨n1, n2, n3, n4, n5, n6, n7⟩ := n1
  rw [n1, n2, n3, n4, n5, n6, n7] at hsv
  refine FSpec.of_W fTrMRem_low (by simp) ?_
  simp only [initEnv, mdP, rflP, recR, List.cons_append, List.nil_append]
  simp [bv, hm]
  refine WO_callF [0, 1, 2] rfl (by simp [bv]) hsv (by simp [rflP]) (by simp [rflP]) (by simp [rflP]) ?_
  simp [rflP]
  by_cases c : e = 0
  · rw [if_pos c] at hR
    rw [hR]
    simp [c]
    exact fin_W (by simp [rflP])
  · rw [if_neg c] at hR
    rw [hR]
    simp [c]
    exact fin_W (by simp [rflP])
set_option maxRecDepth 100000 in
theorem fTrMClear_spec (s : Fl × Rec) (hs : TOk s) (a b : Nat) (hab : a ≤ b) (hb : b ≤ 16) : FSpec Try.prog 73 [.ptr 3 0, .int .i64 (a : Nat), .int .i64 (b : Nat)] (mdP s) (.int .i64 (clearF 18 (b - a) (a : Nat) s.1).1) (mdP ((clearF 18 (b - a) (a : Nat) s.1).2, s.2)) := by
  obtain ⟨f, r⟩ := s
  have hf := hs.f
  simp only at hf
  obtain ⟨R, hR⟩ : ∃ R, R = clearF 18 (b - a) (a : Nat) f := ⟨_, rfl⟩
  simp only
  rw [← hR]
  refine FSpec.of_W fTrMClear_low (by simp) ?_
  simp only [initEnv, mdP, rflP, recR, List.cons_append, List.nil_append]
  simp
  refine W_loop (X := { x : Nat × Fl // a ≤ x.1 ∧ x.1 ≤ b ∧ x.2.Ok ∧ R = clearF 18 (b - x.1) (x.1 : Nat) x.2 }) (fun x => [(0, .ptr 3 0), (2, .int .i64 (b : Nat)), (7, .int .i64 (x.1.1 : Nat))]) (fun x => mdP (x.1.2, r)) (fun x => b - x.1.1) ⟨(a, f), by simp, hab, hf, hR⟩ retPost_le ?_ ?_
  · refine cut_w ?_
    simp [mdP, rflP, recR]
  · rintro ⟨⟨p, g⟩, hp1, hp2, hg, hK⟩
    simp only at hp1 hp2 hg hK
    simp [mdP, rflP, recR]
    refine WC_dec (fun hlt => ?_) (fun hlt => ?_)
    · have e1 : IntKind.i64.wrap (18 + (p : Int)) = 18 + (p : Int) := wrap64s (by omega) (by omega)
      have e2 : IntKind.i64.wrap ((p : Int) + 1) = (p : Int) + 1 := wrap64s (by omega) (by omega)
      have he := fRFlErase_spec g hg (18 + (p : Int)) (by omega)
      have hok := (eraseF_ok hg (18 + (p : Int))).1
      rw [show b - p = (b - (p + 1)) + 1 by omega, clearF] at hK
      generalize eraseF g (18 + (p : Int)) = x at *
      obtain ⟨e, g2⟩ := x
      simp only at he hok hK
      simp [e1]
      refine WO_callF [0, 1, 2] rfl rfl he (by simp [rflP]) (by simp [rflP]) (by simp) ?_
      simp [rflP]
      refine WC_ndec (fun hq => ?_) (fun hq => ?_)
      · rw [if_pos hq] at hK
        subst hK
        simp
        exact fin_W (by simp [rflP])
      · rw [if_neg (fun z => z hq)] at hK
        simp
        exact ⟨⟨(p + 1, g2), by show a ≤ p + 1; omega, by show p + 1 ≤ b; omega, hok, hK⟩, by simp; omega, cut_w (by simp [mdP, rflP, recR, e2])⟩
    · rw [show b - p = 0 by omega, clearF] at hK
      subst hK
      simp
      exact fin_W (by simp [rflP])
theorem bkClear_eq {f : Fl} (hw : 34 ≤ f.worn.length) {a b : Nat} (hab : a ≤ b) (hb : b ≤ 16) : bkClear f 18 (a : Nat) (b : Nat) = clearF 18 (b - a) (a : Nat) f := by
  have hbr : bkR f 18 = true := decide_eq_true ⟨by decide, by omega⟩
  unfold bkClear
  rw [if_neg (by rw [hbr]; simp; omega)]
  congr 1
  omega
theorem clearF_worn (first : Int) : ∀ (n : Nat) (p : Int) (f : Fl), f.Ok → (clearF first n p f).2.worn.length = f.worn.length := by
  intro n p f hf
  have h := clearF_ok first n p hf
  have h1 := h.1.len
  have h2 := hf.len
  omega
theorem trSave_worn {s : Fl × Rec} (h : s.1.Ok) (phase : UInt8) (done : Nat) (init : List UInt8) : (trSave s phase done init).2.1.worn.length = s.1.worn.length := saveS_worn _ _
set_option maxRecDepth 100000 in
theorem fTrMStart_spec (s : Fl × Rec) (hs : TOk s) (hw : 34 ≤ s.1.worn.length) (init : List UInt8) (md : Md) (hm : md.bw = false) (hi : init.length < 2 ^ 40) : FSpec Try.prog 45 [.ptr 3 0, .list 1 md (init.map bv)] (mdP s) (.int .i64 (trStart s init).1) (mdP (trStart s init).2) := by
  obtain ⟨R, hR⟩ : ∃ R, R = trStart s init := ⟨_, rfl⟩
  rw [← hR]
  unfold trStart at hR
  simp only at hR
  have h1 := fTrMRem_spec s hs 0 0 (by decide) [] ⟨true, true, false⟩ rfl (by decide)
  have k1 := trSave_ok hs (phase := 0) (done := 0) (init := []) (by decide) (by decide)
  have w1 := trSave_worn hs.f 0 0 []
  generalize trSave s 0 0 [] = x at *
  obtain ⟨e1, f1, r1⟩ := x
  simp only at hR k1 w1
  have h2 := fTrMClear_spec (f1, r1) k1 0 16 (by decide) (by decide)
  have heq := bkClear_eq (f := f1) (by omega) (a := 0) (b := 16) (by decide) (by decide)
  have k2 := (clearF_ok 18 (16 - 0) (0 : Nat) k1.f).1
  simp only at h2 k2
  rw [show ((0 : Nat) : Int) = 0 from rfl, show ((16 : Nat) : Int) = 16 from rfl] at heq
  rw [heq] at hR
  rw [show ((0 : Nat) : Int) = 0 from rfl] at h2 k2
  generalize clearF 18 (16 - 0) 0 f1 = y at *
  obtain ⟨e2, f2⟩ := y
  simp only at hR k2 h2
  have k3 : TOk (f2, r1) := ⟨k2, k1.r⟩
  have h3 := fTrMRem_spec (f2, r1) k3 1 0 (by decide) init md hm hi
  generalize trSave (f2, r1) 1 0 init = z at *
  obtain ⟨e3, f3, r3⟩ := z
  simp [mdP, bv, recR] at h1 h2 h3
  refine FSpec.of_W fTrMStart_low (by simp) ?_
  simp only [initEnv]
  simp [hm]
  simp only [mdP, recR, rflP, List.cons_append, List.nil_append]
  refine WO_callF [0, 1, 2, 3] rfl rfl h1 (by simp [rflP]) (by simp [rflP]) (by simp) ?_
  simp [rflP]
  by_cases c1 : e1 = 0
  rotate_left
  · rw [if_pos c1] at hR
    rw [hR]
    simp [c1]
    exact fin_W (by simp [rflP])
  rw [if_neg (fun z => z c1)] at hR
  simp [c1]
  refine WO_callF [0, 1, 2, 3] rfl rfl h2 (by simp [rflP]) (by simp [rflP]) (by simp) ?_
  simp [rflP]
  by_cases c2 : e2 = 0
  rotate_left
  · rw [if_pos c2] at hR
    rw [hR]
    simp [c2]
    exact fin_W (by simp [rflP])
  rw [if_neg (fun z => z c2)] at hR
  rw [hR]
  simp [c2, hm]
  refine WO_callF [0, 1, 2, 3] rfl (by simp [bv]) h3 (by simp [rflP]) (by simp [rflP]) (by simp) ?_
  simp [rflP]
  exact fin_W (by simp [rflP])
theorem padN_end {n j : Nat} (hj : j ≤ padN n) (h : (n + j) % 4 = 0) : j = padN n := by unfold padN at *; omega
theorem padN_more {n j : Nat} (hj : j ≤ padN n) (h : (n + j) % 4 ≠ 0) : j < padN n := by unfold padN at *; omega
theorem fRFlProg_pad (f : Fl) (hf : f.Ok) (at_ : Int) (h1 : -2 ^ 63 ≤ at_ ∧ at_ < 2 ^ 63) (d : List UInt8) (hd : d.length < 2 ^ 40) : FSpec Try.prog 67 [.ptr 0 0, .int .i64 at_, .list 1 ⟨false, false, false⟩ (List.map bv d ++ List.replicate (padN d.length) (AV.int .u8 255))] (rflP f) (.int .i64 (progF f at_ (padB d)).1) (rflP (progF f at_ (padB d)).2) := by
  have h := fRFlProg_spec f hf at_ h1 (padB d) ⟨false, false, false⟩ (by have := padN_lt d.length; rw [padB_len]; omega)
  rw [show (padB d).map bv = List.map bv d ++ List.replicate (padN d.length) (bv 255) by simp [padB]] at h
  exact h
set_option maxRecDepth 100000 in
set_option maxHeartbeats 2000000 in
theorem fTrMPut_spec (s : Fl × Rec) (hs : TOk s) (hw : 34 ≤ s.1.worn.length) (b : List UInt8) (md : Md) (hb : b.length < 2 ^ 40) : FSpec Try.prog 46 [.ptr 3 0, .list 1 md (b.map bv)] (mdP s) (.int .i64 (trPut s b).1) (mdP (trPut s b).2) := by
  obtain ⟨R, hR⟩ : ∃ R, R = trPut s b := ⟨_, rfl⟩
  rw [← hR]
  unfold trPut at hR
  obtain ⟨f, r⟩ := s
  simp only at hR hw
  have hd := hs.r.done
  have hri := hs.r.init
  simp only at hd hri
  have e1 : IntKind.i64.wrap (r.done : Int) = (r.done : Int) := wrap64s (by omega) (by omega)
  obtain ⟨q, hq⟩ : ∃ q, q = r.done % 256 := ⟨_, rfl⟩
  have e2 : (r.done : Int).tmod 256 = (q : Nat) := by rw [hq]; rfl
  have e3 : IntKind.i64.wrap ((r.done : Int) + (b.length : Int)) = (r.done : Int) + (b.length : Int) := wrap64s (by omega) (by omega)
  rw [← hq] at hR
  refine FSpec.of_W fTrMPut_low (by simp) ?_
  simp only [initEnv, mdP, rflP, recR, List.cons_append, List.nil_append]
  simp [e1]
  by_cases c1 : r.phase = 1
  rotate_left
  · rw [if_pos c1] at hR
    rw [hR]
    have c1' : ¬ (r.phase.toNat : Int) = 1 := fun q => c1 (UInt8.toNat_inj.1 (by simp; omega))
    simp [c1, c1']
    exact fin_W (by simp [rflP])
  rw [if_neg (fun z => z c1)] at hR
  simp [c1, e2, e3]
  by_cases c2 : q = 0
  rotate_left
  · rw [if_pos (.inl c2)] at hR
    rw [hR]
    simp [c2]
    exact fin_W (by simp [rflP, c1])
  by_cases c3 : (4096 : Int) - r.done < b.length
  · rw [if_pos (.inr c3)] at hR
    rw [hR]
    have c3' : (4096 : Int) < (r.done : Int) + (b.length : Int) := by omega
    simp [c2, c3', e3]
    exact fin_W (by simp [rflP, c1])
  have c3' : ¬ (4096 : Int) < (r.done : Int) + (b.length : Int) := by omega
  rw [if_neg (fun z => z.elim (fun y => y c2) c3)] at hR
  obtain ⟨u, hu⟩ : ∃ u, u = r.done / 256 := ⟨_, rfl⟩
  obtain ⟨v, hv⟩ : ∃ v, v = (r.done + b.length + 255) / 256 := ⟨_, rfl⟩
  rw [← hu, ← hv] at hR
  have e4 : (r.done : Int).tdiv 256 = (u : Nat) := by rw [hu]; rfl
  have e4' : (r.done : Int) / 256 = (u : Nat) := by rw [hu]; rfl
  have e5 : IntKind.i64.wrap (u : Nat) = (u : Int) := wrap64 (by omega) (by omega)
  have e8 : IntKind.i64.wrap ((r.done : Int) + (b.length : Int) + 255) = ((r.done + b.length + 255 : Nat) : Int) := by rw [show (r.done : Int) + (b.length : Int) + 255 = ((r.done + b.length + 255 : Nat) : Int) by omega]; exact wrap64 (by omega) (by omega)
  have e9 : ((r.done + b.length + 255 : Nat) : Int).tdiv 256 = (v : Nat) := by rw [hv]; rfl
  have e9' : ((r.done : Int) + (b.length : Int) + 255) / 256 = (v : Nat) := by rw [hv]; omega
  have e10 : IntKind.i64.wrap (v : Nat) = (v : Int) := wrap64 (by omega) (by omega)
  have e11 : IntKind.i64.wrap (4608 + (r.done : Int)) = 4608 + (r.done : Int) := wrap64s (by omega) (by omega)
  have e12 : IntKind.u32.wrap ((r.done : Int) + (b.length : Int)) = (r.done : Int) + (b.length : Int) := by rw [show (r.done : Int) + (b.length : Int) = ((r.done + b.length : Nat) : Int) by omega, wrapu32, Nat.mod_eq_of_lt (by omega)]
  push_cast at e8 e9
  have h2 := fTrMClear_spec (f, r) hs u v (by omega) (by omega)
  rw [bkClear_eq hw (by omega) (by omega)] at hR
  have k2 := (clearF_ok 18 (v - u) (u : Nat) hs.f).1
  have w2 := clearF_worn 18 (v - u) (u : Nat) f hs.f
  simp only at h2 k2
  generalize clearF 18 (v - u) (u : Nat) f = y at *
  obtain ⟨x2, f2⟩ := y
  simp only at hR k2 h2 w2
  have hbw : bkWrite f2 18 (r.done : Nat) b = progF f2 (4608 + (r.done : Int)) (padB b) := by
    unfold bkWrite
    rw [if_neg (by rw [show bkR f2 18 = true from decide_eq_true ⟨by decide, by omega⟩]; simp), if_neg (by omega)]
    congr 1
  rw [hbw] at hR
  have h3 := fRFlProg_pad f2 k2 (4608 + (r.done : Int)) (by omega) b hb
  have k3 := (progF_ok k2 (4608 + (r.done : Int)) (padB b)).1
  generalize progF f2 (4608 + (r.done : Int)) (padB b) = y at *
  obtain ⟨x3, f3⟩ := y
  simp only at hR k3 h3
  have k4 : TOk (f3, r) := ⟨k3, hs.r⟩
  have h4 := fTrMRem_spec (f3, r) k4 1 (r.done + b.length) (by omega) r.init ⟨false, false, false⟩ rfl hri
  generalize trSave (f3, r) 1 (r.done + b.length) r.init = z at *
  obtain ⟨x4, f4, r4⟩ := z
  simp [mdP, bv, recR] at h2 h4
  simp [c2, c3', e3, e4, e4', e5, e8, e9, e9', e10]
  refine WO_callF [0, 1, 2, 3] rfl rfl h2 (by simp [rflP]) (by simp [rflP, c1]) (by simp) ?_
  simp [rflP]
  by_cases d2 : x2 = 0
  rotate_left
  · rw [if_pos d2] at hR
    rw [hR]
    simp [d2]
    exact fin_W (by simp [rflP, c1])
  rw [if_neg (fun z => z d2)] at hR
  simp [d2]
  have hpd := padN_lt b.length
  refine ⟨by omega, ?_⟩
  refine W_loop (X := { j : Nat // j ≤ padN b.length }) (fun j => [(0, .ptr 3 0), (1, .list 1 md (b.map bv)), (5, .int .i64 (r.done : Nat)), (7, .slice 1 4 0 (b.length + j.1) none)]) (fun j => mdP (f2, r) ++ [some ⟨(b ++ List.replicate j.1 (255 : UInt8)).map bv, 5, false⟩]) (fun j => padN b.length - j.1) ⟨0, by omega⟩ retPost_le ?_ ?_
  · refine cut_w ?_
    simp [mdP, rflP, recR]
  · rintro ⟨j, hj⟩
    have e5 : ((b.length : Int) + j).tmod 4 = (((b.length + j) % 4 : Nat) : Int) := by rw [show (b.length : Int) + j = ((b.length + j : Nat) : Int) by omega]; rfl
    obtain ⟨q, hq⟩ : ∃ q, q = (b.length + j) % 4 := ⟨_, rfl⟩
    rw [← hq] at e5
    simp [mdP, rflP, recR, e5]
    refine WC_ndec (fun hn => ?_) (fun hn => ?_)
    · have hjlt : j < padN b.length := padN_more hj (by rw [← hq]; exact hn)
      have htk : List.take (b.length + j) (List.map bv b ++ List.replicate j (AV.int .u8 255)) = List.map bv b ++ List.replicate j (AV.int .u8 255) := List.take_of_length_le (by simp)
      have hap : List.map bv b ++ (List.replicate j (AV.int .u8 255) ++ [AV.int .u8 255]) = List.map bv b ++ List.replicate (j + 1) (AV.int .u8 255) := by rw [List.replicate_succ']
      simp [htk, bv]
      repeat (refine ⟨by omega, ?_⟩)
      refine ⟨⟨j + 1, by omega⟩, by simp; omega, ?_⟩
      refine cut_rw [0, 1, 2, 3, 5] (by simp) rfl (by simp [htk, hap]; omega) ?_
      simp [mdP, rflP, recR, bv, htk, hap]
    · have hje : j = padN b.length := padN_end hj (by rw [← hq]; exact hn)
      subst hje
      have htk : List.take (b.length + padN b.length) (List.map bv b ++ List.replicate (padN b.length) (AV.int .u8 255)) = List.map bv b ++ List.replicate (padN b.length) (AV.int .u8 255) := List.take_of_length_le (by simp)
      simp
      refine W_cut (cut_frz 4 rfl) ?_
      simp [e11, htk]
      refine WO_callF [0, 1, 2] rfl (by simp [bv]) h3 (by simp [rflP]) (by simp [rflP]) (by simp) ?_
      simp [rflP]
      by_cases d3 : x3 = 0
      rotate_left
      · rw [if_pos d3] at hR
        rw [hR]
        simp [d3]
        exact fin_W (by simp [rflP, c1])
      rw [if_neg (fun z => z d3)] at hR
      rw [hR]
      simp [d3, e3, e12]
      refine WO_callF [0, 1, 2, 3] rfl (by simp [bv]) h4 (by simp [rflP]) (by simp [rflP, c1]) (by simp) ?_
      simp [rflP]
      exact fin_W (by simp [rflP])
/-- The next number. -/
def lcg (t : Nat) : Nat := (t * 1664525 + 1013904223) % 4294967296
def lcgN (t : Nat) : Nat → Nat
  | 0 => t
  | n + 1 => lcg (lcgN t n)
def genB (n t : Nat) : List UInt8 := (List.range n).map fun i => UInt8.ofNat (lcgN t (i + 1) / 16777216)
theorem genB_len (n t : Nat) : (genB n t).length = n := by simp [genB]
theorem genB_succ (n t : Nat) : genB (n + 1) t = genB n t ++ [UInt8.ofNat (lcgN t (n + 1) / 16777216)] := by simp [genB, List.range_succ]
theorem lcgN_lt {t : Nat} (h : t < 4294967296) : ∀ n, lcgN t n < 4294967296
  | 0 => h
  | n + 1 => Nat.mod_lt _ (by decide)
def gbV (n : Nat) : AV := if n = 0 then .list 1 ⟨true, true, false⟩ [] else .slice 1 0 0 n none
def gbH (b : List UInt8) (n : Nat) : Heap := if n = 0 then [] else [some ⟨b.map bv, 5, false⟩]
theorem fTrBytes_spec (n t : Nat) (hn : n < 2 ^ 20) (ht : t < 4294967296) : FSpec Try.prog 44 [.int .i64 (n : Nat), .int .u32 (t : Nat)] [] (.list 1 ⟨false, false, false⟩ ((genB n t).map bv)) [] := by
  refine FSpec.of_W fTrBytes_low (by simp) ?_
  simp only [initEnv]
  simp
  refine W_loop (X := { i : Nat // i ≤ n }) (fun i => [(1, .int .u32 (lcgN t i.1 : Nat)), (5, gbV i.1), (6, .int .i64 (n : Nat)), (7, .int .i64 (i.1 : Nat))]) (fun i => gbH (genB i.1 t) i.1) (fun i => n - i.1) ⟨0, by omega⟩ retPost_le ?_ ?_
  · refine cut_w ?_
    simp [gbV, gbH, lcgN]
  · rintro ⟨i, hi⟩
    simp only
    simp
    refine WC_dec (fun hlt => ?_) (fun hlt => ?_)
    · have w1 : IntKind.i64.wrap ((i : Int) + 1) = (i : Int) + 1 := wrap64s (by omega) (by omega)
      have hl := lcgN_lt ht i
      have hl2 := lcgN_lt ht (i + 1)
      have hs : lcgN t (i + 1) = lcg (lcgN t i) := rfl
      have hg := genB_succ i t
      obtain ⟨x, hx⟩ : ∃ x, x = lcgN t i := ⟨_, rfl⟩
      obtain ⟨y, hy⟩ : ∃ y, y = lcgN t (i + 1) := ⟨_, rfl⟩
      rw [← hx] at hl hs
      rw [← hy] at hl2 hs hg
      have e1 : IntKind.u32.wrap ((x : Int) * 1664525) = ((x * 1664525 % 4294967296 : Nat) : Int) := by rw [show (x : Int) * 1664525 = ((x * 1664525 : Nat) : Int) by omega, wrapu32]
      obtain ⟨m, hm⟩ : ∃ m, m = x * 1664525 % 4294967296 := ⟨_, rfl⟩
      rw [← hm] at e1
      have e2 : IntKind.u32.wrap ((m : Int) + 1013904223) = (y : Nat) := by
        rw [show (m : Int) + 1013904223 = ((m + 1013904223 : Nat) : Int) by omega, wrapu32, hs, lcg]
        omega
      have e3 : ((y : Nat) : Int).fdiv 16777216 = ((y / 16777216 : Nat) : Int) := by rw [show (16777216 : Int) = 2 ^ 24 from rfl, shr_nat]
      have e4 := wrap8_u8 (y / 16777216)
      generalize UInt8.ofNat (y / 16777216) = u at *
      obtain ⟨z, hz⟩ : ∃ z, z = y / 16777216 := ⟨_, rfl⟩
      rw [← hz] at e3 e4
      rw [← hx]
      have hgl := genB_len i t
      by_cases h0 : i = 0
      · subst h0
        simp [gbV, gbH, e1, e2, e3, e4, IntKind.bits]
        refine ⟨⟨1, by omega⟩, by simp; omega, cut_w ?_⟩
        have h01 : genB 1 t = [u] := by rw [hg]; rfl
        simp [gbV, gbH, h01, ← hy, bv, show IntKind.i64.wrap 1 = 1 from rfl]
      · have htk : List.take i ((genB i t).map bv) = (genB i t).map bv := List.take_of_length_le (by simp [hgl])
        simp [gbV, gbH, h0, e1, e2, e3, e4, IntKind.bits, hgl, htk]
        repeat (refine ⟨by omega, ?_⟩)
        refine ⟨⟨i + 1, by omega⟩, by simp; omega, ?_⟩
        refine cut_rw [1] (by simp) rfl (by simp [w1, ← hy]) ?_
        simp [gbV, gbH, hg, ← hy, bv, w1]
    · have : i = n := by omega
      subst this
      by_cases h0 : i = 0
      · subst h0
        simp [gbV, gbH, genB]
        exact fin_W (by simp)
      · simp [gbV, gbH, h0]
        exact fin_sl 0 rfl (by simp [genB_len]) (by simp) (by simp)
end Go.Proofs.Ytjehncilahjmdaa
