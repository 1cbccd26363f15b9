/-
  The law of settings' calls.
-/
import Derived.Test.YtjehncilahjmdaadC10
set_option linter.unusedSimpArgs false
set_option linter.unnecessarySimpa false
set_option linter.unusedVariables false
set_option linter.unusedSectionVars false
namespace Go.Proofs.Ytjehncilahjmdaa
open Go Go.Fw
attribute [local simp] bv cleanL_bv toBytes_bv ltL_bv atF_drop WS_at_bytes W_nil W_skip W_seq W_reg W_draw W_drawP W_kill W_keep W_block W_blk W_exit W_ret WX_blk WX_c WX_lp WX_li W_li W_condT W_condF W_cond WC_true WC_false
  WR_nil WR_cons WR_o1 WR_o2 o1_chk o2_chk WR_grd WG_tt WG_ff WG_tf WG_ft WG_none WS_some WS_ok1 WSr_no WSr_some WSr_ok1 WSr_at_bytes WH_some WHA_some chkF_cons chkF_nil chkE_some chkE_ok1 chkE_at evF WO_mv WO_pick WO_bin WO_isNil WO_eqA WO_un WO_convI WO_toStr WO_ofStr WO_build WO_buildF WO_load WO_nilCheck WO_fieldAddr WO_field WO_idxA WO_idxS
  WO_ixA WO_slS WO_slA WO_len WO_lenK WO_appF WO_extract WO_s2a WO_iface WO_min WO_max WO_alloc WO_box WO_buildO WO_store WO_appO WO_copy WO_makeS WO_allocA WO_makeA WO_cvt cvtF_slice WO_look lookF_map alAF mkAF WO_func bind1_v bind2_v bindH_v bindH2_v bindS_v okO_v pickO_t pickO_f
  Env.keep Env.get Env.set Env.del Env.dels Env.setO Env.opd Env.opds Env.opdO Env.parts intF aggF fillA splice cleanL AV.clean bndF fldF_one fldF_many toStrF boxF buildOF
  loadF_rptr loadF_rptrN atF_zero atF_succ blk_cons_zero blk_cons_succ loadF_p loadF_pN atB_some atBN_some retPost resL one
  okc_bool cells_bool notStr_bool okc_int cells_int notStr_int okc_str cells_str notStr_str okc_nil cells_nil notStr_nil okc_ptr cells_ptr notStr_ptr okc_rptr cells_rptr notStr_rptr okc_slice cells_slice notStr_slice 
  okc_list cells_list notStr_list okc_func cells_func notStr_func okc_nilFunc cells_nilFunc notStr_nilFunc okc_iface cells_iface notStr_iface okc_nilIface cells_nilIface notStr_nilIface okc_agg cells_agg notStr_agg 
  okc_tuple cells_tuple notStr_tuple lenF_slice lenF_list lenF_str faF_ptr faF_rptr idxSF_slice idxSF_list idxAF_ptr idxAF_rptr ixAF_many ixAF_one convF_int unF_neg unF_xor unF_not nilF_0nil nilF_0ptr nilF_0rptr nilF_1 
  nilF_2nil nilF_2f nilF_3nil nilF_3f binF_int binF_beq binF_bne binF_sadd binF_seq binF_sne sliceCells_list sliceCells_str sliceCells_slice cutC_some szAV_list szAV_str szAV_slice oneSl_list oneSl_slice slSF_sliceS 
  slSF_sliceN slSF_list slAF_rptr slAF_ptr appFF_list appOF_list appOF_sliceN appOF_sliceS storeF_ptr copyF_slice extF_tuple s2aF_slice s2aF_list nchkF_ptr nchkF_rptr nchkF_f mmF_int ofStrF_str mkSF_int eqAF_agg
attribute [local irreducible] W WX WR WO WS WSr WH WHA WG WC FSpec
attribute [local simp] lendAll
attribute [local congr] W_cg WR_cg WO_cg WS_cg WSr_cg WH_cg WHA_cg WG_cg WC_cg WX_cg
attribute [local simp] Env.has AV.wkr wkrL AV.wkr_refl wkrL_refl AV.ltI ltL leHW hasW Env.lt AV.ids idsL AV.sub subL AV.ren AV.frz frzS frzP frzE frzL Heap.frz Blk.frz Blk.ren renL rnS rnP hasR leR idsL_bv subL_bv
attribute [local simp] cleanL_take cleanL_drop ltL_take ltL_drop idsL_take idsL_drop subL_take subL_drop cleanL_append ltL_append idsL_append subL_append
attribute [local simp] renE mvN mvH
attribute [local simp] fwd backH putL bwd
attribute [local simp] u8i u8e List.idxOf_cons
attribute [local simp] hasRW leRW

attribute [local simp] WS_at_map WSr_at_map loadWP splice_full Int.natCast_inj
/-- A record that comes, of any length. -/
structure RecFit2 (r : Rec) : Prop where
  seq : r.seq < 2 ^ 32
  floor : r.floor < 2 ^ 32
  bytes : r.bytes < 2 ^ 32
  sum : r.sum < 2 ^ 32
  done : r.done < 2 ^ 32
  init : r.init.length < 2 ^ 47

structure SAct.Fit2 (a : SAct) : Prop where
  tear : a.tear < 2 ^ 32
  r : RecFit2 a.r
def sActE (a : SAct) : List AV := sActP a ⟨false, false, false⟩
theorem acts_len (l : List SAct) : (l.flatMap sActE).length = 10 * l.length := by
  induction l with
  | nil => rfl
  | cons r l ih => simp only [List.flatMap_cons, List.length_append, ih, List.length_cons]; show 10 + _ = _; omega
theorem acts_get : ∀ (l : List SAct) (i : Nat) (h : i < l.length), (l.flatMap sActE).drop (10 * i) = sActE l[i] ++ (l.flatMap sActE).drop (10 * i + 10)
  | r :: l, 0, _ => by simp only [List.flatMap_cons, Nat.mul_zero, List.drop_zero, List.getElem_cons_zero]; rfl
  | r :: l, i + 1, h => by
    have := acts_get l i (by simpa using h)
    simp only [List.flatMap_cons, List.getElem_cons_succ]
    have e : ∀ k, (sActE r ++ l.flatMap sActE).drop (10 + k) = (l.flatMap sActE).drop k := fun k => by
      rw [show 10 = (sActE r).length from rfl, List.drop_length_add_append]
    rw [show 10 * (i + 1) = 10 + 10 * i by omega, e, this, show 10 + 10 * i + 10 = 10 + (10 * i + 10) by omega, e]
theorem acts_lt (n : Nat) (l : List SAct) : ltL n (l.flatMap sActE) = true := by
  induction l with
  | nil => rfl
  | cons r l ih => simp only [List.flatMap_cons, sActE, sActP, recP, List.cons_append, ltL, ih, List.nil_append]; simp [AV.ltI, bv]
theorem acts_ids (q : Nat → Bool) (l : List SAct) : idsL q (l.flatMap sActE) = true := by
  induction l with
  | nil => rfl
  | cons r l ih => simp only [List.flatMap_cons, sActE, sActP, recP, List.cons_append, idsL, ih, List.nil_append]; simp [AV.ids, bv]
theorem acts_sub (s : Nat → Nat → Nat → Nat → Option Nat → AV) (p : Nat → Nat → AV) (l : List SAct) : subL s p (l.flatMap sActE) = l.flatMap sActE := by
  induction l with
  | nil => rfl
  | cons r l ih => simp only [List.flatMap_cons, sActE, sActP, recP, List.cons_append, subL, ih, List.nil_append]; simp [AV.sub, bv]
theorem cleanL_act (a : SAct) (md : Md) (hm : md.bw = false) : cleanL (sActP a md) = true := by simp [sActP, recP, hm]
set_option maxRecDepth 100000 in
set_option maxHeartbeats 2000000 in
theorem fSetActs_spec (pages : Int) (l : List SAct) (hl : ∀ a ∈ l, a.Fit2) (m1 : Md) (hl2 : l.length < 2 ^ 47) : FSpec Try.prog 6 [.int .i64 pages, .list 10 m1 (l.flatMap sActE)] [] (.bool true) [] := by
  obtain ⟨N, hN64, hNw⟩ : ∃ N : Nat, N < 2 ^ 64 ∧ IntKind.u64.wrap pages = N := by
    refine ⟨(pages % 2 ^ 64).toNat, by omega, ?_⟩
    unfold IntKind.wrap
    simp [IntKind.signed, IntKind.bits]
    omega
  obtain ⟨n, hn⟩ : ∃ n, n = N % 4 := ⟨_, rfl⟩
  have hn4 : n < 4 := by omega
  have e8 : (N : Int).tmod 4 = (n : Nat) := by rw [hn]; rfl
  have e9 : IntKind.i64.wrap (n : Int) = n := wrap64 (by omega) (by omega)
  have e10 : IntKind.i64.wrap (1 + (n : Int)) = 1 + (n : Int) := wrap64s (by omega) (by omega)
  have hN := fFlNew_spec (1 + n) (by omega) (by omega)
  have hN2 := fRFlNew_spec (1 + n) (by omega) (by omega)
  have h0 := newF_ok (n := 1 + n) (by omega)
  have hlen0 : (newF (1 + n)).b.length = 256 * (1 + n) := by simp [newF]
  generalize newF (1 + n) = f0 at *
  push_cast at hN hN2
  refine FSpec.of_W fSetActs_low (by simp) ?_
  simp only [initEnv]
  simp
  obtain ⟨C, hC⟩ : ∃ C, C = l.flatMap sActE := ⟨_, rfl⟩
  have hCl : C.length = 10 * l.length := by rw [hC]; exact acts_len l
  have hCi : ∀ i (h : i < l.length), C.drop (10 * i) = sActE l[i] ++ C.drop (10 * i + 10) := by rw [hC]; exact acts_get l
  have hC1 : ∀ n, ltL n C = true := by rw [hC]; exact fun n => acts_lt n l
  have hC2 : ∀ q, idsL q C = true := by rw [hC]; exact fun q => acts_ids q l
  have hC3 : ∀ s p, subL s p C = C := by rw [hC]; exact fun s p => acts_sub s p l
  rw [← hC]
  have e7 : ((10 * l.length : Nat) : Int) / 10 = l.length := by omega
  refine WO_call rfl fSetLives_spec (by simp) ?_
  simp [hCl]
  refine WC_dec (fun hc => ?_) (fun hc => ?_)
  · simp
    refine WO_call rfl fSetLives_spec (by simp) ?_
    simp
    exact fin_W (by simp)
  simp [hNw, e8, e9, e10]
  refine WO_call rfl hN (by simp) ?_
  simp
  refine WO_callF [] rfl rfl hN2 (by simp) (by simp) (by simp) ?_
  simp [flP, rflP, hCl]
  refine W_loop (X := {x : Nat × Fl // x.1 ≤ l.length ∧ x.2.Ok}) (fun x => [(6, .ptr 0 0), (8, .ptr 3 0), (39, .list 10 m1 C), (40, .int .i64 (l.length : Nat)), (41, .int .i64 (x.1.1 : Nat))]) (fun x => tw2 x.1.2 x.1.2) (fun x => l.length - x.1.1) ⟨(0, f0), by omega, h0⟩ retPost_le (cut_w (by simp [tw2, flP, hC1])) ?_
  rintro ⟨⟨i, g⟩, hi, hg⟩
  simp only at hi hg
  simp only [tw2, flP, List.cons_append, List.nil_append]
  simp
  refine WC_dec (fun hlt => ?_) (fun hlt => ?_)
  · have hil : i < l.length := by omega
    have hx := hCi i hil
    have hr := hl _ (List.getElem_mem hil)
    obtain ⟨a, hae⟩ : ∃ a, a = l[i] := ⟨_, rfl⟩
    rw [← hae] at hx hr
    have e1 : IntKind.i64.wrap ((i : Int) + 1) = (i : Int) + 1 := wrap64s (by omega) (by omega)
    have hx7 : (C.drop (i * 10)).take 10 = sActP a ⟨false, false, false⟩ := by rw [Nat.mul_comm, hx]; rfl
    simp [hCl, hx7, cleanL_act]
    repeat (refine ⟨by omega, ?_⟩)
    simp [sActP, recP]
    by_cases h200 : (200 : Int) < a.r.init.length
    · simp [h200]
      exact fin_W (by simp)
    have hrok : a.r.Ok := ⟨hr.r.seq, hr.r.floor, hr.r.bytes, hr.r.sum, hr.r.done, by omega⟩
    have hst := fSetStep_spec g hg a hr.tear hrok ⟨false, false, false⟩ rfl
    have hok := sActS_ok (a := a) hg hr.tear
    generalize sActS a (sActN a) g = g2 at *
    simp only [tw2, flP, List.cons_append, List.nil_append, sActP, recP] at hst
    simp [h200]
    refine WO_callF [0, 1, 2, 3, 4, 5] rfl (by simp [bv]) hst (by simp) (by simp) (by simp) ?_
    simp
    refine ⟨⟨(i + 1, g2), by omega, hok⟩, by simp; omega, ?_⟩
    refine cut_rw [0, 1, 2, 3, 4, 5] (by simp) rfl (by simp [e1, hC1, hC2, hC3]) ?_
    simp [tw2, flP, e1, hC1, hC2, hC3]
  · have hgl := hg.len
    have hgp := hg.pages
    have s1 := fFlPower_spec g
    have hgok := powerF_ok hg
    have hb : (powerF g).b = g.b := rfl
    have hof : (powerF g).off = false := rfl
    generalize powerF g = g2 at *
    have s2 := fFlSize_spec g2
    have s3 := fFlRead_spec g2 hgok 0 g2.b.length (by omega)
    rw [show readF g2 0 g2.b.length = (g2.b, 0) by
      rw [readF, if_neg (by simp [hof]), if_neg (by omega), show (0 : Int).toNat = 0 from rfl, List.drop_zero, Int.toNat_natCast, List.take_length]] at s3
    simp only [flP] at s1 s2 s3
    rw [hb] at s1 s2 s3
    simp
    refine WO_callF [0, 1, 2] rfl rfl s1 (by simp) (by simp) (by simp) ?_
    simp
    refine WO_callF [0, 1, 2] rfl rfl s2 (by simp) (by simp) (by simp) ?_
    simp
    refine WO_callF [0, 1, 2] rfl rfl s3 (by simp) (by simp) (by simp) ?_
    have htk : List.take g.b.length (List.map bv g.b) = List.map bv g.b := List.take_of_length_le (by simp)
    simp [htk]
    exact fin_W (by simp)
set_option maxRecDepth 100000 in
theorem fit_recE2 {n : Nat} {y : List AV} (h : Fit Try.prog (n + 3) 42 y) : ∃ x : { x : Md × Rec // x.1.bw = false ∧ RecFit2 x.2 }, y = recP x.1.2 x.1.1 := by
  obtain ⟨a1, b1, rfl, h1, a2, b2, rfl, h2, a3, b3, rfl, h3, a4, b4, rfl, h4, a5, b5, rfl, h5, a6, b6, rfl, h6, a7, b7, rfl, h7, rfl⟩ := fit_struct Try.underlying42 h
  obtain ⟨n1, p1, q1, rfl⟩ := fit_int Try.underlying23 h1
  obtain ⟨n2, p2, q2, rfl⟩ := fit_int Try.underlying23 h2
  obtain ⟨n3, p3, q3, rfl⟩ := fit_int Try.underlying23 h3
  obtain ⟨n4, p4, q4, rfl⟩ := fit_int Try.underlying23 h4
  obtain ⟨u, rfl⟩ := fit_u8 Try.underlying5 h5
  obtain ⟨n6, p6, q6, rfl⟩ := fit_int Try.underlying23 h6
  obtain ⟨z, rfl⟩ := fit_one (by rw [Try.underlying22]) h7
  obtain ⟨nl, full, l, rfl, hl⟩ := fit_bytes Try.underlying22 Try.underlying5 (by kernel_rfl) (by kernel_rfl) h7
  have hu : IntKind.u32.min = 0 ∧ IntKind.u32.max = 4294967295 := ⟨rfl, rfl⟩
  rw [hu.1] at p1 p2 p3 p4 p6
  rw [hu.2] at q1 q2 q3 q4 q6
  refine ⟨⟨(⟨nl, full, false⟩, ⟨n1.toNat, n2.toNat, n3.toNat, n4.toNat, u, n6.toNat, l⟩), rfl, ⟨by show n1.toNat < _; omega, by show n2.toNat < _; omega, by show n3.toNat < _; omega, by show n4.toNat < _; omega, by show n6.toNat < _; omega, by show l.length < _; omega⟩⟩, ?_⟩
  simp only [recP, List.cons_append, List.nil_append, List.append_nil]
  rw [Int.toNat_of_nonneg p1, Int.toNat_of_nonneg p2, Int.toNat_of_nonneg p3, Int.toNat_of_nonneg p4, Int.toNat_of_nonneg p6]
set_option maxRecDepth 100000 in
theorem fit_sact {n : Nat} {y : List AV} (h : Fit Try.prog (n + 4) 54 y) : ∃ x : { x : Md × SAct // x.1.bw = false ∧ x.2.Fit2 }, y = sActP x.1.2 x.1.1 := by
  obtain ⟨a1, b1, rfl, h1, a2, b2, rfl, h2, a3, b3, rfl, h3, a4, b4, rfl, h4, rfl⟩ := fit_struct Try.underlying54 h
  obtain ⟨u, rfl⟩ := fit_u8 Try.underlying5 h1
  obtain ⟨n2, p2, q2, rfl⟩ := fit_int Try.underlying3 h2
  obtain ⟨n3, p3, q3, rfl⟩ := fit_int Try.underlying23 h3
  obtain ⟨⟨⟨md, r⟩, hm, hr⟩, rfl⟩ := fit_recE2 h4
  have hu : IntKind.u32.min = 0 ∧ IntKind.u32.max = 4294967295 := ⟨rfl, rfl⟩
  rw [hu.1] at p3
  rw [hu.2] at q3
  refine ⟨⟨(md, ⟨u, n2, n3.toNat, r⟩), hm, ⟨by show n3.toNat < _; omega, hr⟩⟩, ?_⟩
  simp only [sActP, recP, List.cons_append, List.nil_append, List.append_nil]
  rw [Int.toNat_of_nonneg p3]
theorem wk_acts (l : List { x : Md × SAct // x.1.bw = false ∧ x.2.Fit2 }) : wkrL (l.flatMap fun x => sActP x.1.2 x.1.1) ((l.map fun x => x.1.2).flatMap sActE) := by
  induction l with
  | nil => rfl
  | cons x l ih =>
    obtain ⟨⟨⟨a, b, c⟩, r⟩, h, _⟩ := x
    simp only at h
    subst h
    simpa [sActE, sActP, recP] using ih
set_option maxRecDepth 100000 in
theorem fSettingsActs_law : ∀ args, AllFit Try.prog 8 Try.f6.params.toList args → FSpec Try.prog 6 args [] (.bool true) [] := by
  intro args has
  rw [show Try.f6.params.toList = [3, 49] from by rw [Try.params6]] at has
  obtain ⟨a, as1, rfl, h1, has⟩ := all_cons has
  obtain ⟨b, as2, rfl, h2, has⟩ := all_cons has
  cases all_nil has
  obtain ⟨n, p1, p2, rfl⟩ := arg_int Try.underlying3 h1
  obtain ⟨nl, full, l, rfl, hl⟩ := arg_slice (fun x : { x : Md × SAct // x.1.bw = false ∧ x.2.Fit2 } => sActP x.1.2 x.1.1) Try.underlying49 (fun y hy => fit_sact hy) h2
  rw [show Try.prog.bytesOf 54 = 72 by kernel_rfl] at hl
  rw [show Try.prog.cellsOf 54 = 10 by kernel_rfl]
  refine FSpec.wk ?_ (fSetActs_spec n (l.map fun x => x.1.2) (fun r hr => ?_) ⟨nl, full, false⟩ (by rw [List.length_map]; omega))
  · simp [wk_acts]
  · obtain ⟨x, _, rfl⟩ := List.mem_map.1 hr
    exact x.2.2
end Go.Proofs.Ytjehncilahjmdaa
