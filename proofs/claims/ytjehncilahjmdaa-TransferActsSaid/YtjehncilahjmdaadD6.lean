/-
  Any calls, one behind the other.
-/
import Derived.Test.YtjehncilahjmdaadD5
set_option linter.unusedSimpArgs false
set_option linter.unnecessarySimpa false
set_option linter.unusedVariables false
set_option linter.unusedSectionVars false
namespace Go.Proofs.Ytjehncilahjmdaa
open Go Go.Fw
attribute [local simp] bv cleanL_bv toBytes_bv ltL_bv atF_drop WS_at_bytes W_nil W_skip W_seq W_reg W_draw W_drawP W_kill W_keep W_block W_blk W_exit W_ret WX_blk WX_c WX_lp WX_li W_li W_condT W_condF W_cond WC_true WC_false
  WR_nil WR_cons WR_o1 WR_o2 o1_chk o2_chk WR_grd WG_tt WG_ff WG_tf WG_ft WG_none WS_some WS_ok1 WSr_no WSr_some WSr_ok1 WSr_at_bytes WH_some WHA_some chkF_cons chkF_nil chkE_some chkE_ok1 chkE_at evF WO_mv WO_pick WO_bin WO_isNil WO_eqA WO_un WO_convI WO_toStr WO_ofStr WO_build WO_buildF WO_load WO_nilCheck WO_fieldAddr WO_field WO_idxA WO_idxS
  WO_ixA WO_slS WO_slA WO_len WO_lenK WO_appF WO_extract WO_s2a WO_iface WO_min WO_max WO_alloc WO_box WO_buildO WO_store WO_appO WO_copy WO_makeS WO_allocA WO_makeA WO_cvt cvtF_slice WO_look lookF_map alAF mkAF WO_func bind1_v bind2_v bindH_v bindH2_v bindS_v okO_v pickO_t pickO_f
  Env.keep Env.get Env.set Env.del Env.dels Env.setO Env.opd Env.opds Env.opdO Env.parts intF aggF fillA splice cleanL AV.clean bndF fldF_one fldF_many toStrF boxF buildOF
  loadF_rptr loadF_rptrN atF_zero atF_succ blk_cons_zero blk_cons_succ loadF_p loadF_pN atB_some atBN_some retPost resL one
  okc_bool cells_bool notStr_bool okc_int cells_int notStr_int okc_str cells_str notStr_str okc_nil cells_nil notStr_nil okc_ptr cells_ptr notStr_ptr okc_rptr cells_rptr notStr_rptr okc_slice cells_slice notStr_slice 
  okc_list cells_list notStr_list okc_func cells_func notStr_func okc_nilFunc cells_nilFunc notStr_nilFunc okc_iface cells_iface notStr_iface okc_nilIface cells_nilIface notStr_nilIface okc_agg cells_agg notStr_agg 
  okc_tuple cells_tuple notStr_tuple lenF_slice lenF_list lenF_str faF_ptr faF_rptr idxSF_slice idxSF_list idxAF_ptr idxAF_rptr ixAF_many ixAF_one convF_int unF_neg unF_xor unF_not nilF_0nil nilF_0ptr nilF_0rptr nilF_1 
  nilF_2nil nilF_2f nilF_3nil nilF_3f binF_int binF_beq binF_bne binF_sadd binF_seq binF_sne sliceCells_list sliceCells_str sliceCells_slice cutC_some szAV_list szAV_str szAV_slice oneSl_list oneSl_slice slSF_sliceS 
  slSF_sliceN slSF_list slAF_rptr slAF_ptr appFF_list appOF_list appOF_sliceN appOF_sliceS storeF_ptr copyF_slice extF_tuple s2aF_slice s2aF_list nchkF_ptr nchkF_rptr nchkF_f mmF_int ofStrF_str mkSF_int eqAF_agg
attribute [local irreducible] W WX WR WO WS WSr WH WHA WG WC FSpec
attribute [local simp] lendAll
attribute [local congr] W_cg WR_cg WO_cg WS_cg WSr_cg WH_cg WHA_cg WG_cg WC_cg WX_cg
attribute [local simp] Env.has AV.wkr wkrL AV.wkr_refl wkrL_refl AV.ltI ltL leHW hasW Env.lt AV.ids idsL AV.sub subL AV.ren AV.frz frzS frzP frzE frzL Heap.frz Blk.frz Blk.ren renL rnS rnP hasR leR idsL_bv subL_bv
attribute [local simp] cleanL_take cleanL_drop ltL_take ltL_drop idsL_take idsL_drop subL_take subL_drop cleanL_append ltL_append idsL_append subL_append
attribute [local simp] renE mvN mvH
attribute [local simp] fwd backH putL bwd
attribute [local simp] u8i u8e List.idxOf_cons
attribute [local simp] hasRW leRW
attribute [local simp] WS_at_map WSr_at_map loadWP splice_full Int.natCast_inj
section
variable {P : Program} {L : Nat} {k : List It} {e : Env} {H : Heap} {Q : Post}
theorem WC_join_cut {Y : Type} (e1 : Y → Env) (H1 : Y → Heap) {v : Option AV} {t : Nat} {ca cb c' : KCode} {id : Nat} (h1 : ∀ y, W P L (.c c' :: k) (e1 y) (H1 y) Q)
    (h2 : ∀ k', (∀ y e H, cut L e H (e1 y) (H1 y) → W P L k' e H Q) → WC P L v t ca cb e H (.blk id :: k') Q) : WC P L v t ca cb e H (.blk id :: .c (.cut c') :: k) Q :=
  h2 _ fun y _ _ hs => W_cut hs (h1 y)
end
/-- A keeper, and the document's, each behind its flash. -/
def twM (s : Fl × Rec) : Heap := kpP s ++ [some ⟨[.slice 1 5 0 s.1.b.length none, .int .i64 s.1.lo, .int .i64 s.1.hi, .bool s.1.armed, .int .i64 s.1.left, .int .u32 (s.1.tear : Nat), .bool s.1.off, .slice 1 6 0 s.1.worn.length none, .int .i64 s.1.ops], 57, true⟩, some ⟨s.1.b.map bv, 5, false⟩, some ⟨s.1.worn.map iv, 3, false⟩, some ⟨[.ptr 4 0] ++ recR s.2 ⟨false, false, false⟩, 83, true⟩]
/-- A call. -/
structure TAct where
  kind : UInt8
  n : Int
  tear : Nat
def tActE (a : TAct) : List AV := [bv a.kind, .int .i64 a.n, .int .u32 (a.tear : Nat)]
theorem tacts_len (l : List TAct) : (l.flatMap tActE).length = 3 * l.length := by
  induction l with
  | nil => rfl
  | cons r l ih => simp only [List.flatMap_cons, List.length_append, ih, List.length_cons]; show 3 + _ = _; omega
theorem tacts_get : ∀ (l : List TAct) (i : Nat) (h : i < l.length), (l.flatMap tActE).drop (3 * i) = tActE l[i] ++ (l.flatMap tActE).drop (3 * i + 3)
  | r :: l, 0, _ => by simp only [List.flatMap_cons, Nat.mul_zero, List.drop_zero, List.getElem_cons_zero]; rfl
  | r :: l, i + 1, h => by
    have := tacts_get l i (by simpa using h)
    simp only [List.flatMap_cons, List.getElem_cons_succ]
    have e : ∀ k, (tActE r ++ l.flatMap tActE).drop (3 + k) = (l.flatMap tActE).drop k := fun k => by
      rw [show 3 = (tActE r).length from rfl, List.drop_length_add_append]
    rw [show 3 * (i + 1) = 3 + 3 * i by omega, e, this, show 3 + 3 * i + 3 = 3 + (3 * i + 3) by omega, e]
theorem tacts_lt (n : Nat) (l : List TAct) : ltL n (l.flatMap tActE) = true := by
  induction l with
  | nil => rfl
  | cons r l ih => simp only [List.flatMap_cons, tActE, List.cons_append, ltL, ih, List.nil_append]; simp [AV.ltI, bv]
theorem tacts_ids (q : Nat → Bool) (l : List TAct) : idsL q (l.flatMap tActE) = true := by
  induction l with
  | nil => rfl
  | cons r l ih => simp only [List.flatMap_cons, tActE, List.cons_append, idsL, ih, List.nil_append]; simp [AV.ids, bv]
theorem tacts_sub (s : Nat → Nat → Nat → Nat → Option Nat → AV) (p : Nat → Nat → AV) (l : List TAct) : subL s p (l.flatMap tActE) = l.flatMap tActE := by
  induction l with
  | nil => rfl
  | cons r l ih => simp only [List.flatMap_cons, tActE, List.cons_append, subL, ih, List.nil_append]; simp [AV.sub, bv]
theorem cleanL_tact (a : TAct) : cleanL (tActE a) = true := by simp [tActE, bv]
theorem trStart_worn {s : Fl × Rec} (hs : TOk s) {init : List UInt8} (hi : init.length < 2 ^ 40) : (trStart s init).2.1.worn.length = s.1.worn.length := by
  have h := trStart_ok hs hi
  have h1 := h.1.f.len
  have h2 := hs.f.len
  omega
theorem trPut_worn {s : Fl × Rec} (hs : TOk s) (b : List UInt8) : (trPut s b).2.1.worn.length = s.1.worn.length := by
  have h := trPut_ok hs (b := b)
  have h1 := h.1.f.len
  have h2 := hs.f.len
  omega
theorem load_on {f : Fl} (h : 512 ≤ f.b.length) (ho : f.off = false) : (loadS f).2.2 = 0 ∨ (loadS f).2.2 = 15 := by
  unfold loadS
  rw [if_neg (by omega), if_neg (by rw [ho]; decide)]
  cases newestS f with
  | none => exact .inr rfl
  | some x => exact .inl rfl
theorem trNew_on {f : Fl} (h : 8704 ≤ f.b.length) (ho : f.off = false) : trNew f = (some (loadS f).1, 0) := by
  have hl := load_on (f := f) (by omega) ho
  unfold trNew
  rw [if_neg (by omega), if_neg (fun z => hl.elim z.1 z.2)]
set_option maxRecDepth 100000 in
set_option maxHeartbeats 4000000 in
theorem fTrActs_spec (l : List TAct) (hl : ∀ a ∈ l, a.tear < 4294967296) (m1 : Md) (hl2 : l.length < 2 ^ 47) : FSpec Try.prog 10 [.list 3 m1 (l.flatMap tActE)] [] (.bool true) [] := by
  have hN := fFlNew_spec 34 (by decide) (by decide)
  have hN2 := fRFlNew_spec 34 (by decide) (by decide)
  have h0 := newF_ok (n := 34) (by decide)
  have hNew := fTrNew_spec (newF 34) h0
  have hl0 : (newF 34).b.length = 8704 := List.length_replicate
  have hw0 : (newF 34).worn.length = 34 := List.length_replicate
  rw [trNew_none (by rw [hl0]; exact Nat.le_refl _) (load_new (by decide) (by decide))] at hNew
  simp only at hNew
  generalize newF 34 = f0 at *
  simp [kpP, flP, recP, rec0] at hNew
  refine FSpec.of_W fTrActs_low (by simp) ?_
  simp only [initEnv]
  simp
  obtain ⟨C, hC⟩ : ∃ C, C = l.flatMap tActE := ⟨_, rfl⟩
  have hCl : C.length = 3 * l.length := by rw [hC]; exact tacts_len l
  have hCi : ∀ i (h : i < l.length), C.drop (3 * i) = tActE l[i] ++ C.drop (3 * i + 3) := by rw [hC]; exact tacts_get l
  have hC1 : ∀ n, ltL n C = true := by rw [hC]; exact fun n => tacts_lt n l
  have hC2 : ∀ q, idsL q C = true := by rw [hC]; exact fun q => tacts_ids q l
  have hC3 : ∀ s p, subL s p C = C := by rw [hC]; exact fun s p => tacts_sub s p l
  rw [← hC]
  have e7 : ((3 * l.length : Nat) : Int) / 3 = l.length := by omega
  refine WO_call rfl fTrLives_spec (by simp) ?_
  simp [hCl]
  refine WC_dec (fun hc => ?_) (fun hc => ?_)
  · simp
    refine WO_call rfl fTrLives_spec (by simp) ?_
    simp
    exact fin_W (by simp)
  simp
  refine WO_call rfl hN (by simp) ?_
  simp [flP]
  refine WO_callF [0, 1, 2] rfl rfl hNew (by simp) (by simp) (by simp) ?_
  simp
  refine WO_callF [] rfl rfl hN2 (by simp) (by simp) (by simp) ?_
  simp [rflP, hCl]
  refine W_loop (X := {x : Nat × Fl × Rec // x.1 ≤ l.length ∧ TOk x.2 ∧ x.2.1.worn.length = 34}) (fun x => [(3, .ptr 0 0), (5, .ptr 3 0), (9, .ptr 7 0), (49, .list 3 m1 C), (50, .int .i64 (l.length : Nat)), (51, .int .i64 (x.1.1 : Nat))]) (fun x => twM x.1.2) (fun x => l.length - x.1.1) ⟨(0, f0, rec0), by omega, ⟨h0, rec0_ok⟩, hw0⟩ retPost_le (cut_w (by simp [twM, kpP, flP, recP, recR, rec0, hC1])) ?_
  rintro ⟨⟨i, s⟩, hi, hs, hw⟩
  simp only at hi hs hw
  simp only [twM, kpP, flP, recP, recR, List.cons_append, List.nil_append]
  simp
  refine WC_dec (fun hlt => ?_) (fun hlt => ?_)
  · have hil : i < l.length := by omega
    have hx := hCi i hil
    have hr := hl _ (List.getElem_mem hil)
    obtain ⟨a, hae⟩ : ∃ a, a = l[i] := ⟨_, rfl⟩
    rw [← hae] at hx hr
    have e1 : IntKind.i64.wrap ((i : Int) + 1) = (i : Int) + 1 := wrap64s (by omega) (by omega)
    have hx7 : (C.drop (i * 3)).take 3 = tActE a := by rw [Nat.mul_comm, hx]; rfl
    obtain ⟨N, hN64, hNw⟩ : ∃ N : Nat, N < 2 ^ 64 ∧ IntKind.u64.wrap a.n = N := by
      refine ⟨(a.n % 2 ^ 64).toNat, by omega, ?_⟩
      unfold IntKind.wrap
      simp [IntKind.signed, IntKind.bits]
      omega
    obtain ⟨n, hn⟩ : ∃ n, n = N % 2000 := ⟨_, rfl⟩
    have hn200 : n < 2000 := by omega
    have e8 : (N : Int).tmod 2000 = (n : Nat) := by rw [hn]; rfl
    have e9 : IntKind.i64.wrap (n : Int) = n := wrap64 (by omega) (by omega)
    obtain ⟨k, hk⟩ : ∃ k, k = a.kind.toNat % 4 := ⟨_, rfl⟩
    have e10 : (a.kind.toNat : Int).tmod 4 = (k : Nat) := by rw [hk]; rfl
    simp [hCl, hx7, cleanL_tact]
    repeat (refine ⟨by omega, ?_⟩)
    simp [tActE, hNw, e8, e9, e10]
    have ht := hr
    refine WC_join_cut (Y := {s2 : Fl × Rec // TOk s2 ∧ s2.1.worn.length = 34}) (fun _ => [(3, .ptr 0 0), (5, .ptr 3 0), (9, .ptr 7 0), (49, .list 3 m1 C), (50, .int .i64 (l.length : Nat)), (51, .int .i64 (i : Nat))]) (fun y => twM y.1) ?_ (fun k' hk' => ?_)
    · rintro ⟨s2, hs2, hw2⟩
      have hRc := fTrRecord_spec s2 hs2
      have hSm := fRSetSame_spec s2.2 s2.2 ⟨false, false, false⟩ ⟨false, false, false⟩ rfl rfl
      have hLd := fTrLoad_spec s2 hs2
      have hd2 := hs2.r.done
      have hi2 := hs2.r.init
      have e11 : IntKind.i64.wrap (s2.2.done : Int) = (s2.2.done : Int) := wrap64s (by omega) (by omega)
      simp only [kpP, flP, recP, List.cons_append, List.nil_append] at hRc hLd
      simp only [recR] at hSm
      simp only [twM, kpP, flP, recP, recR, List.cons_append, List.nil_append]
      simp
      refine WO_callF [0, 1, 2, 3] rfl rfl hRc (by simp) (by simp) (by simp) ?_
      simp
      refine WO_callP [] rfl rfl hSm (by simp) (by simp) ?_
      simp
      by_cases c1 : s2.2.phase = 1
      · rw [if_pos c1, if_pos c1] at hLd
        refine WO_callF [0, 1, 2, 3] rfl rfl hLd (by simp) (by simp) (by simp) ?_
        simp [c1, e11]
        refine ⟨⟨(i + 1, s2), by omega, hs2, hw2⟩, by simp; omega, ?_⟩
        refine cut_rw [0, 1, 2, 3, 4, 5, 6, 7] (by simp) rfl (by simp [e1, hC1, hC2, hC3]) ?_
        simp [twM, kpP, flP, recP, recR, e1, hC1, hC2, hC3, c1]
      · rw [if_neg c1, if_neg c1] at hLd
        have c1' : ¬ (s2.2.phase.toNat : Int) = 1 := fun q => c1 (UInt8.toNat_inj.1 (by simp; omega))
        refine WO_callF [0, 1, 2, 3] rfl rfl hLd (by simp) (by simp) (by simp) ?_
        simp [c1, c1', e11, show IntKind.i64.wrap 0 = 0 from rfl]
        refine ⟨⟨(i + 1, s2), by omega, hs2, hw2⟩, by simp; omega, ?_⟩
        refine cut_rw [0, 1, 2, 3, 4, 5, 6, 7] (by simp) rfl (by simp [e1, hC1, hC2, hC3]) ?_
        simp [twM, kpP, flP, recP, recR, e1, hC1, hC2, hC3]
    by_cases k0 : k = 0
    · obtain ⟨q, hq⟩ : ∃ q, q = n % 140 := ⟨_, rfl⟩
      have e11 : (n : Int).tmod 140 = (q : Nat) := by rw [hq]; rfl
      have hB := fTrBytes_spec q a.tear (by omega) ht
      have hgl := genB_len q a.tear
      have e12 : IntKind.i64.wrap (q : Int) = q := wrap64 (by omega) (by omega)
      have s1 := fTrStart_spec s hs (genB q a.tear) ⟨false, false, false⟩ (by omega)
      have s2 := fTrMStart_spec s hs (by omega) (genB q a.tear) ⟨false, false, false⟩ rfl (by omega)
      have hk1 := trStart_ok hs (init := genB q a.tear) (by omega)
      have hk2 := trStart_worn hs (init := genB q a.tear) (by omega)
      generalize genB q a.tear = I at *
      generalize trStart s I = z at *
      obtain ⟨e, s3⟩ := z
      simp only at s1 s2 hk1 hk2
      simp only [kpP, flP, recP, List.cons_append, List.nil_append] at s1
      simp only [mdP, rflP, recR, List.cons_append, List.nil_append] at s2
      simp [k0, e11, e12]
      refine WO_callP [] rfl rfl hB (by simp) (by simp) ?_
      simp
      refine WO_callF [0, 1, 2, 3] rfl (by simp) s1 (by simp) (by simp) (by simp) ?_
      simp
      refine WO_callF [4, 5, 6, 7] rfl (by simp) s2 (by simp) (by simp) (by simp) ?_
      simp
      refine hk' ⟨s3, hk1.1, hk2.trans hw⟩ _ _ ?_
      refine cut_rw [0, 1, 2, 3, 4, 5, 6, 7] (by simp) rfl (by simp [hC1, hC2, hC3]) ?_
      simp [twM, kpP, flP, recP, recR, hC1, hC2, hC3]
    by_cases k1 : k = 1
    · have hB := fTrBytes_spec n a.tear (by omega) ht
      have hgl := genB_len n a.tear
      have s1 := fTrPut_spec s hs (genB n a.tear) ⟨false, false, false⟩ (by omega)
      have s2 := fTrMPut_spec s hs (by omega) (genB n a.tear) ⟨false, false, false⟩ (by omega)
      have hk1 := trPut_ok hs (b := genB n a.tear)
      have hk2 := trPut_worn hs (genB n a.tear)
      generalize genB n a.tear = I at *
      generalize trPut s I = z at *
      obtain ⟨e, s3⟩ := z
      simp only at s1 s2 hk1 hk2
      simp only [kpP, flP, recP, List.cons_append, List.nil_append] at s1
      simp only [mdP, rflP, recR, List.cons_append, List.nil_append] at s2
      simp [k1]
      refine WO_callP [] rfl rfl hB (by simp) (by simp) ?_
      simp
      refine WO_callF [0, 1, 2, 3] rfl (by simp) s1 (by simp) (by simp) (by simp) ?_
      simp
      refine WO_callF [4, 5, 6, 7] rfl (by simp) s2 (by simp) (by simp) (by simp) ?_
      simp
      refine hk' ⟨s3, hk1.1, hk2.trans hw⟩ _ _ ?_
      refine cut_rw [0, 1, 2, 3, 4, 5, 6, 7] (by simp) rfl (by simp [hC1, hC2, hC3]) ?_
      simp [twM, kpP, flP, recP, recR, hC1, hC2, hC3]
    by_cases k2 : k = 2
    · have s1 := fFlFail_spec s.1 n a.tear
      have s2 := fRFlFail_spec s.1 n a.tear
      have hk1 := failF_ok hs.f (n := (n : Nat)) (t := a.tear) (by omega) ht
      have hk2 : (failF s.1 (n : Nat) a.tear).2.worn = s.1.worn := by unfold failF; split <;> rfl
      obtain ⟨f, r⟩ := s
      simp only at s1 s2 hk1 hk2 hw ⊢
      rw [← hk2] at hw
      generalize failF f (n : Nat) a.tear = z at *
      obtain ⟨e, f3⟩ := z
      simp only at s1 s2 hk1 hw
      simp only [flP] at s1
      simp only [rflP] at s2
      simp [k2]
      refine WO_callF [0, 1, 2] rfl rfl s1 (by simp) (by simp) (by simp) ?_
      simp
      refine WO_callF [4, 5, 6] rfl rfl s2 (by simp) (by simp) (by simp) ?_
      simp
      refine hk' ⟨(f3, r), ⟨hk1, hs.r⟩, hw⟩ _ _ ?_
      refine cut_rw [0, 1, 2, 3, 4, 5, 6, 7] (by simp) rfl (by simp [hC1, hC2, hC3]) ?_
      simp [twM, kpP, flP, recP, recR, hC1, hC2, hC3]
    · have k0' : ¬ (k : Int) = 0 := by omega
      have k1' : ¬ (k : Int) = 1 := by omega
      have k2' : ¬ (k : Int) = 2 := by omega
      have s1 := fFlPower_spec s.1
      have s2 := fRFlPower_spec s.1
      have hk1 := powerF_ok hs.f
      have hlen := hk1.len
      have hwp : (powerF s.1).worn.length = 34 := hw
      have hof : (powerF s.1).off = false := rfl
      obtain ⟨f, r⟩ := s
      simp only at s1 s2 hk1 hlen hwp hof ⊢
      generalize powerF f = f3 at *
      have hNw2 := fTrNew_spec f3 hk1
      rw [trNew_on (by omega) hof] at hNw2
      simp only at hNw2
      have hLd2 := fRSetLoad_spec f3 hk1
      have hle := load_on (f := f3) (by omega) hof
      have hlk := (loadS_ok f3).1
      generalize loadS f3 = z at *
      obtain ⟨x, p, e⟩ := z
      simp only at hle hlk
      simp only [kpP, flP, recP, List.cons_append, List.nil_append] at s1 hNw2
      simp only [rflP, ldR, recR] at s2 hLd2
      have hle' : e = 0 ∨ (¬ e = 0 ∧ e = 15) := hle.imp id fun z => ⟨by rw [z]; decide, z⟩
      simp [k0, k1, k2, k0', k1', k2']
      refine WO_callF [0, 1, 2] rfl rfl s1 (by simp) (by simp) (by simp) ?_
      simp
      refine WO_callF [4, 5, 6] rfl rfl s2 (by simp) (by simp) (by simp) ?_
      simp
      refine WO_callF [0, 1, 2] rfl rfl hNw2 (by simp) (by simp) (by simp) ?_
      simp
      refine WO_callF [4, 5, 6] rfl rfl hLd2 (by simp) (by simp) (by simp) ?_
      rcases hle' with he | ⟨he1, he⟩
      all_goals
        (simp [he]
         refine hk' ⟨(f3, x), ⟨hk1, hlk⟩, hwp⟩ _ _ ?_
         refine cut_rw [0, 1, 2, 9, 4, 5, 6, 7] (by simp) rfl (by simp [hC1, hC2, hC3]) ?_
         simp [twM, kpP, flP, recP, recR, hC1, hC2, hC3])
  · have hgl := hs.f.len
    have hgp := hs.f.pages
    have s1 := fFlPower_spec s.1
    have hgok := powerF_ok hs.f
    have hb : (powerF s.1).b = s.1.b := rfl
    have hof : (powerF s.1).off = false := rfl
    obtain ⟨g, r⟩ := s
    simp only at s1 hgok hb hof hgl hgp ⊢
    generalize powerF g = g2 at *
    have s2 := fFlSize_spec g2
    have s3 := fFlRead_spec g2 hgok 0 g2.b.length (by omega)
    rw [show readF g2 0 g2.b.length = (g2.b, 0) by
      rw [readF, if_neg (by simp [hof]), if_neg (by omega), show (0 : Int).toNat = 0 from rfl, List.drop_zero, Int.toNat_natCast, List.take_length]] at s3
    simp only [flP] at s1 s2 s3
    rw [hb] at s1 s2 s3
    simp
    refine WO_callF [0, 1, 2] rfl rfl s1 (by simp) (by simp) (by simp) ?_
    simp
    refine WO_callF [0, 1, 2] rfl rfl s2 (by simp) (by simp) (by simp) ?_
    simp
    refine WO_callF [0, 1, 2] rfl rfl s3 (by simp) (by simp) (by simp) ?_
    have htk : List.take g.b.length (List.map bv g.b) = List.map bv g.b := List.take_of_length_le (by simp)
    simp [htk]
    exact fin_W (by simp)
set_option maxRecDepth 100000 in
theorem fit_tact {n : Nat} {y : List AV} (h : Fit Try.prog (n + 3) 85 y) : ∃ a : { a : TAct // a.tear < 4294967296 }, y = tActE a.1 := by
  obtain ⟨a1, b1, rfl, h1, a2, b2, rfl, h2, a3, b3, rfl, h3, rfl⟩ := fit_struct Try.underlying85 h
  obtain ⟨u, rfl⟩ := fit_u8 Try.underlying5 h1
  obtain ⟨n2, p2, q2, rfl⟩ := fit_int Try.underlying3 h2
  obtain ⟨n3, p3, q3, rfl⟩ := fit_int Try.underlying23 h3
  have hu : IntKind.u32.min = 0 ∧ IntKind.u32.max = 4294967295 := ⟨rfl, rfl⟩
  rw [hu.1] at p3
  rw [hu.2] at q3
  refine ⟨⟨⟨u, n2, n3.toNat⟩, by show n3.toNat < _; omega⟩, ?_⟩
  simp only [tActE, List.cons_append, List.nil_append, List.append_nil]
  rw [Int.toNat_of_nonneg p3]
theorem flat_tact (l : List { a : TAct // a.tear < 4294967296 }) : (l.flatMap fun x => tActE x.1) = (l.map fun x => x.1).flatMap tActE := by
  induction l with
  | nil => rfl
  | cons x l ih => rw [List.flatMap_cons, ih]; rfl
set_option maxRecDepth 100000 in
theorem fTransferActs_law : ∀ args, AllFit Try.prog 8 Try.f10.params.toList args → FSpec Try.prog 10 args [] (.bool true) [] := by
  intro args has
  rw [show Try.f10.params.toList = [78] from by rw [Try.params10]] at has
  obtain ⟨b, as2, rfl, h2, has⟩ := all_cons has
  cases all_nil has
  obtain ⟨nl, full, l, rfl, hl⟩ := arg_slice (fun x : { a : TAct // a.tear < 4294967296 } => tActE x.1) Try.underlying78 (fun y hy => fit_tact hy) h2
  rw [show Try.prog.bytesOf 85 = 24 by kernel_rfl] at hl
  rw [show Try.prog.cellsOf 85 = 3 by kernel_rfl]
  rw [flat_tact]
  refine fTrActs_spec (l.map fun x => x.1) (fun r hr => ?_) ⟨nl, full, false⟩ (by rw [List.length_map]; omega)
  obtain ⟨x, _, rfl⟩ := List.mem_map.1 hr
  exact x.2
end Go.Proofs.Ytjehncilahjmdaa
