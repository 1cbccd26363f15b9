/-
  Flash: words.
-/
import Derived.Test.YtjehncilahjmdaadF1
set_option linter.unusedSimpArgs false
set_option linter.unnecessarySimpa false
set_option linter.unusedVariables false
set_option linter.unusedSectionVars false
namespace Go.Proofs.Ytjehncilahjmdaa
open Go Go.Fw
attribute [local simp] bv cleanL_bv toBytes_bv ltL_bv atF_drop WS_at_bytes W_nil W_skip W_seq W_reg W_draw W_drawP W_kill W_keep W_block W_blk W_exit W_ret WX_blk WX_c WX_lp WX_li W_li W_condT W_condF W_cond WC_true WC_false
  WR_nil WR_cons WR_o1 WR_o2 o1_chk o2_chk WR_grd WG_tt WG_ff WG_tf WG_ft WG_none WS_some WS_ok1 WSr_no WSr_some WSr_ok1 WSr_at_bytes WH_some WHA_some chkF_cons chkF_nil chkE_some chkE_ok1 chkE_at evF WO_mv WO_pick WO_bin WO_isNil WO_eqA WO_un WO_convI WO_toStr WO_ofStr WO_build WO_buildF WO_load WO_nilCheck WO_fieldAddr WO_field WO_idxA WO_idxS
  WO_ixA WO_slS WO_slA WO_len WO_lenK WO_appF WO_extract WO_s2a WO_iface WO_min WO_max WO_alloc WO_box WO_buildO WO_store WO_appO WO_copy WO_makeS WO_allocA WO_makeA WO_cvt cvtF_slice WO_look lookF_map alAF mkAF WO_func bind1_v bind2_v bindH_v bindH2_v bindS_v okO_v pickO_t pickO_f
  Env.keep Env.get Env.set Env.del Env.dels Env.setO Env.opd Env.opds Env.opdO Env.parts intF aggF fillA splice cleanL AV.clean bndF fldF_one fldF_many toStrF boxF buildOF
  loadF_rptr loadF_rptrN atF_zero atF_succ blk_cons_zero blk_cons_succ loadF_p loadF_pN atB_some atBN_some retPost resL one
  okc_bool cells_bool notStr_bool okc_int cells_int notStr_int okc_str cells_str notStr_str okc_nil cells_nil notStr_nil okc_ptr cells_ptr notStr_ptr okc_rptr cells_rptr notStr_rptr okc_slice cells_slice notStr_slice 
  okc_list cells_list notStr_list okc_func cells_func notStr_func okc_nilFunc cells_nilFunc notStr_nilFunc okc_iface cells_iface notStr_iface okc_nilIface cells_nilIface notStr_nilIface okc_agg cells_agg notStr_agg 
  okc_tuple cells_tuple notStr_tuple lenF_slice lenF_list lenF_str faF_ptr faF_rptr idxSF_slice idxSF_list idxAF_ptr idxAF_rptr ixAF_many ixAF_one convF_int unF_neg unF_xor unF_not nilF_0nil nilF_0ptr nilF_0rptr nilF_1 
  nilF_2nil nilF_2f nilF_3nil nilF_3f binF_int binF_beq binF_bne binF_sadd binF_seq binF_sne sliceCells_list sliceCells_str sliceCells_slice cutC_some szAV_list szAV_str szAV_slice oneSl_list oneSl_slice slSF_sliceS 
  slSF_sliceN slSF_list slAF_rptr slAF_ptr appFF_list appOF_list appOF_sliceN appOF_sliceS storeF_ptr copyF_slice extF_tuple s2aF_slice s2aF_list nchkF_ptr nchkF_rptr nchkF_f mmF_int ofStrF_str mkSF_int eqAF_agg
attribute [local irreducible] W WX WR WO WS WSr WH WHA WG WC FSpec
attribute [local simp] lendAll
attribute [local congr] W_cg WR_cg WO_cg WS_cg WSr_cg WH_cg WHA_cg WG_cg WC_cg WX_cg
attribute [local simp] Env.has AV.wkr wkrL AV.wkr_refl wkrL_refl AV.ltI ltL leHW hasW Env.lt AV.ids idsL AV.sub subL AV.ren AV.frz frzS frzP frzE frzL Heap.frz Blk.frz Blk.ren renL rnS rnP hasR leR idsL_bv subL_bv
attribute [local simp] cleanL_take cleanL_drop ltL_take ltL_drop idsL_take idsL_drop subL_take subL_drop cleanL_append ltL_append idsL_append subL_append
attribute [local simp] renE mvN mvH
attribute [local simp] fwd backH putL bwd
attribute [local simp] u8i u8e List.idxOf_cons
attribute [local simp] hasRW leRW
attribute [local simp] WS_at_map WSr_at_map loadWP splice_full Int.natCast_inj
theorem byN_inj {a b : List UInt8} (h : a.length = b.length) : byN a = byN b ↔ a = b := by
  constructor
  · intro q
    have h1 := byL_byN a
    have h2 := byL_byN b
    rw [q, h] at h1
    rw [← h1, h2]
  · rintro rfl; rfl
theorem byN_step (x a : Nat) (h : x < 256) : (x + 256 * a) % 2 ^ 8 = x ∧ (x + 256 * a) / 2 ^ 8 = a := by omega
theorem byN_parts (m : Nat) : m = m % 2 ^ 8 + 256 * (m / 2 ^ 8) := by omega
theorem byN_and : ∀ {a b : List UInt8}, a.length = b.length → byN a &&& byN b = byN (andB a b)
  | [], [], _ => rfl
  | x :: a, y :: b, h => by
    have ih := byN_and (a := a) (b := b) (by simpa using h)
    obtain ⟨x1, x2⟩ := byN_step x.toNat (byN a) x.toNat_lt
    obtain ⟨y1, y2⟩ := byN_step y.toNat (byN b) y.toNat_lt
    have e : andB (x :: a) (y :: b) = (x &&& y) :: andB a b := rfl
    rw [e, byN, byN, byN, ← ih, byN_parts ((x.toNat + 256 * byN a) &&& (y.toNat + 256 * byN b)), Nat.and_mod_two_pow, Nat.and_div_two_pow, x1, y1, x2, y2, UInt8.toNat_and]
  | [], _ :: _, h => by simp at h
  | _ :: _, [], h => by simp at h
theorem u8_torn (x y z : UInt8) : (x &&& ~~~(~~~y &&& z)).toNat = x.toNat &&& ((2 ^ 8 - 1) ^^^ (((2 ^ 8 - 1) ^^^ y.toNat) &&& z.toNat)) := by
  rw [UInt8.toNat_and]
  congr 1
theorem byN_torn : ∀ {a b t : List UInt8}, a.length = b.length → t.length = b.length → byN a &&& ((2 ^ (8 * b.length) - 1) ^^^ (((2 ^ (8 * b.length) - 1) ^^^ byN b) &&& byN t)) = byN (tornB a b t)
  | [], [], [], _, _ => rfl
  | x :: a, y :: b, z :: t, h, k => by
    have ih := byN_torn (a := a) (b := b) (t := t) (by simpa using h) (by simpa using k)
    obtain ⟨x1, x2⟩ := byN_step x.toNat (byN a) x.toNat_lt
    obtain ⟨y1, y2⟩ := byN_step y.toNat (byN b) y.toNat_lt
    obtain ⟨z1, z2⟩ := byN_step z.toNat (byN t) z.toNat_lt
    have hpow : 2 ^ (8 * (y :: b).length) = 256 * 2 ^ (8 * b.length) := by rw [List.length_cons, Nat.mul_add, Nat.pow_add]; exact Nat.mul_comm _ _
    have hp : 0 < 2 ^ (8 * b.length) := Nat.two_pow_pos _
    have m1 : (2 ^ (8 * (y :: b).length) - 1) % 2 ^ 8 = 2 ^ 8 - 1 := by rw [hpow]; omega
    have m2 : (2 ^ (8 * (y :: b).length) - 1) / 2 ^ 8 = 2 ^ (8 * b.length) - 1 := by rw [hpow]; omega
    have e : tornB (x :: a) (y :: b) (z :: t) = (x &&& ~~~(~~~y &&& z)) :: tornB a b t := rfl
    generalize 2 ^ (8 * (y :: b).length) - 1 = M at *
    rw [e, byN, byN, byN, byN, ← ih, u8_torn, byN_parts ((x.toNat + 256 * byN a) &&& _)]
    simp only [Nat.and_mod_two_pow, Nat.and_div_two_pow, Nat.xor_mod_two_pow, Nat.xor_div_two_pow, x1, y1, z1, x2, y2, z2, m1, m2]
  | [], _ :: _, _, h, _ => by simp at h
  | _ :: _, [], _, h, _ => by simp at h
  | _, [], _ :: _, _, h => by simp at h
  | _, _ :: _, [], _, h => by simp at h
theorem bitI_andNot {a b : Nat} (ha : a < 2 ^ 32) (hb : b < 2 ^ 32) : bitI .andNot .u32 a b = (a &&& ((2 ^ 32 - 1) ^^^ b) : Nat) := by
  have h := Nat.and_lt_two_pow (n := 32) a (y := (2 ^ 32 - 1) ^^^ b) (Nat.xor_lt_two_pow (by omega) hb)
  simp only [bitI, BitVec.not_def, BitVec.toNat_and, BitVec.toNat_xor, BitVec.toNat_allOnes, bv_ofInt_nat, wrapu32]
  simp only [IntKind.bits] at *
  rw [Nat.mod_eq_of_lt ha, Nat.mod_eq_of_lt hb, Nat.mod_eq_of_lt h]
theorem xor_u32 {b : Nat} (hb : b < 2 ^ 32) : bitI .xor .u32 (if IntKind.u32.signed then -1 else IntKind.u32.max) b = ((2 ^ 32 - 1) ^^^ b : Nat) := by
  have : (if IntKind.u32.signed then -1 else IntKind.u32.max) = ((2 ^ 32 - 1 : Nat) : Int) := rfl
  rw [this, bitI_xor rfl (by decide) hb]
theorem fFlWord_spec (f : Fl) (hf : f.Ok) (o : Nat) (w : List UInt8) (hw : w.length = 4) (h : o + 4 ≤ f.b.length) : FSpec Try.prog 53 [.ptr 0 0, .int .i64 o, .int .u32 (byN w : Nat)] (flP f) (.int .i64 (wordF f o w).1) (flP (wordF f o w).2) := by
  have hl := hf.len
  have hp := hf.pages
  refine FSpec.of_W fFlWord_low (by simp) ?_
  simp only [initEnv, flP]
  simp
  have hw4 : byN w < 2 ^ 32 := by have := byN_lt w; rw [hw] at this; simpa using this
  have hlen := was_len h
  obtain ⟨was, hwas⟩ : ∃ was, was = (f.b.drop o).take 4 := ⟨_, rfl⟩
  rw [← hwas] at hlen
  have ht := hf.tear
  have hwb : byN was < 2 ^ 32 := by have := byN_lt was; rw [hlen] at this; simpa using this
  have e1 := bitI_and (k := .u32) rfl (a := byN was) (b := byN w) hwb hw4
  rw [byN_and (by omega)] at e1
  have e2 := xor_u32 hw4
  have e3 := bitI_and (k := .u32) rfl (a := (2 ^ 32 - 1) ^^^ byN w) (b := f.tear) (Nat.xor_lt_two_pow (by decide) hw4) ht
  have hz := Nat.and_lt_two_pow (n := 32) ((2 ^ 32 - 1) ^^^ byN w) ht
  have e4 := bitI_andNot hwb hz
  have e5 := byN_torn (a := was) (b := w) (t := byL 4 f.tear) (by omega) (by simp [byL_len, hw])
  rw [byN_byL, hw, Nat.mod_eq_of_lt (show f.tear < 256 ^ 4 by omega)] at e5
  rw [e5] at e4
  have hg := fFlGet_spec (f.b.drop o) ⟨false, false, true⟩ (by simp; omega)
  rw [← hwas] at hg
  have q1 : byL 4 (byN (tornB was w (byL 4 f.tear))) = tornB was w (byL 4 f.tear) := by
    have := byL_byN (tornB was w (byL 4 f.tear))
    rwa [tornB_len (by omega) (by simp [byL_len, hw]), hw] at this
  have q2 : byL 4 (byN (andB was w)) = andB was w := by
    have := byL_byN (andB was w)
    rwa [andB_len (by omega), hw] at this
  have q3 := byN_inj (a := andB was w) (b := w) (by rw [andB_len (by omega)])
  obtain ⟨b1, b2, b3, b4, b5⟩ := stepF_b f
  have hs := fFlStep_spec f hf
  unfold wordF
  rw [← hwas]
  generalize (2 ^ 32 - 1) ^^^ byN w = nw at *
  generalize nw &&& f.tear = nt at *
  obtain ⟨tn, htn⟩ : ∃ tn, tn = tornB was w (byL 4 f.tear) := ⟨_, rfl⟩
  obtain ⟨an, han⟩ : ∃ an, an = andB was w := ⟨_, rfl⟩
  rw [← htn] at e4 q1
  rw [← han] at e1 q2 q3
  simp only [← htn, ← han]
  obtain ⟨f1, hf1⟩ : ∃ f1, f1 = (stepF f).2 := ⟨_, rfl⟩
  rw [← hf1] at b1 b2 b3 b4 b5 hs ⊢
  refine ⟨by omega, ?_⟩
  refine WO_callP (as' := [.list 1 ⟨false, false, true⟩ ((f.b.drop o).map bv)]) [1] rfl (by simp [show o + (f.b.length - o) = f.b.length by omega, List.take_of_length_le]) hg (by simp) (by simp) ?_
  simp
  refine WO_call rfl hs (by simp) ?_
  have p1 := fFlPut_spec f.b o (f.b.length - o) none (byN tn) 5 false (by omega) (by omega) (by omega)
  have p2 := fFlPut_spec f.b o (f.b.length - o) none (byN an) 5 false (by omega) (by omega) (by omega)
  rw [q1] at p1
  rw [q2] at p2
  have l1 : (ovw f.b o tn).length = f.b.length := by rw [ovw_len]; rw [htn, tornB_len (by omega) (by simp [byL_len, hw])]; omega
  have l2 : (ovw f.b o an).length = f.b.length := by rw [ovw_len]; rw [han, andB_len (by omega)]; omega
  cases hst : (stepF f).1
  · simp [flP, b1, b2, b5, e2, e3, e4]
    refine ⟨by omega, ?_⟩
    refine WO_callF [1] rfl rfl p1 (by simp) (by simp) (by simp) ?_
    simp
    exact fin_W (by simp [l1, b2, b5])
  · simp [flP, b1, b2, e1]
    refine ⟨by omega, ?_⟩
    refine WO_callF [1] rfl rfl p2 (by simp) (by simp) (by simp) ?_
    simp
    rw [e1]
    refine WC_ndec (fun hq => ?_) (fun hq => ?_)
    · rw [Int.natCast_inj, q3] at hq
      rw [if_neg hq]
      simp
      exact fin_W (by simp [l2, b2])
    · rw [Int.natCast_inj, q3] at hq
      rw [if_pos hq]
      simp
      exact fin_W (by simp [l2, b2])
theorem fFlProg_loop (f : Fl) (hf : f.Ok) (a : Nat) (d : List UInt8) (md : Md) (hd : d.length % 4 = 0) (hle : a + d.length ≤ f.b.length) : W Try.prog 3 [It.c (.loop fFlProg_l11), It.blk 3, It.c (.keep [] (.seq (.reg fFlProg_r20) .ret))] [(0, .ptr 0 0), (1, .int .i64 a), (2, .list 1 md (d.map bv)), (8, .int .i64 0)] (flP f) (retPost fFlProg_rs (fin 3 (.int .i64 (wordsF (d.length / 4) f a d).1) (flP (wordsF (d.length / 4) f a d).2))) := by
  have hl := hf.len
  have hp := hf.pages
  obtain ⟨R, hR⟩ : ∃ R, R = wordsF (d.length / 4) f a d := ⟨_, rfl⟩
  rw [← hR]
  refine W_loop (X := { x : Nat × Fl // 4 * x.1 ≤ d.length ∧ x.2.Ok ∧ x.2.b.length = f.b.length ∧ wordsF (d.length / 4 - x.1) x.2 (a + 4 * x.1) (d.drop (4 * x.1)) = R }) (fun x => [(0, .ptr 0 0), (1, .int .i64 a), (2, .list 1 md (d.map bv)), (8, .int .i64 ((4 * x.1.1 : Nat) : Int))]) (fun x => flP x.1.2) (fun x => d.length - 4 * x.1.1) ⟨(0, f), by simp, hf, rfl, by simp [hR]⟩ retPost_le ?_ ?_
  · refine cut_w ?_
    simp [flP]
  · rintro ⟨⟨i, f'⟩, hi, hok, hbl, hw⟩
    simp only at hi hok hbl hw ⊢
    simp
    refine WC_dec (fun h => ?_) (fun h => ?_)
    · have hx : 4 * i + 4 ≤ d.length := by omega
      have hg := fFlGet_spec (d.drop (4 * i)) md (by simp; omega)
      have e1 : IntKind.i64.wrap ((a : Int) + 4 * i) = ((a + 4 * i : Nat) : Int) := by rw [show (a : Int) + 4 * i = ((a + 4 * i : Nat) : Int) by omega]; exact wrap64 (by omega) (by omega)
      have hs := fFlWord_spec f' hok (a + 4 * i) ((d.drop (4 * i)).take 4) (by simp; omega) (by omega)
      have hok2 := wordF_ok (f := f') (o := a + 4 * i) (w := (d.drop (4 * i)).take 4) hok (by omega) (by simp; omega)
      have hbl2 := wordF_len (f := f') (o := a + 4 * i) (w := (d.drop (4 * i)).take 4) (by omega) (by simp; omega)
      rw [show d.length / 4 - i = (d.length / 4 - (i + 1)) + 1 by omega, wordsF] at hw
      obtain ⟨v, hv⟩ : ∃ v, v = byN ((d.drop (4 * i)).take 4) := ⟨_, rfl⟩
      rw [← hv] at hg hs
      obtain ⟨r, hr⟩ : ∃ r, r = wordF f' (a + 4 * i) ((d.drop (4 * i)).take 4) := ⟨_, rfl⟩
      rw [← hr] at hs hok2 hbl2 hw
      have e4 : (4 * (i : Int)).toNat = 4 * i := by omega
      push_cast at hs
      simp [e1, e4, List.take_of_length_le]
      refine ⟨by omega, ?_⟩
      simp only [List.map_drop] at hg
      refine WO_callP [] rfl rfl hg (by simp) (by simp) ?_
      simp
      refine WO_call rfl hs (by simp) ?_
      simp
      refine WC_ndec (fun hq => ?_) (fun hq => ?_)
      · rw [if_neg hq] at hw
        simp
        exact fin_W (by simp [flP, hw])
      · rw [if_pos hq] at hw
        have e5 : IntKind.i64.wrap (4 * (i : Int) + 4) = 4 * (i : Int) + 4 := wrap64s (by omega) (by omega)
        simp
        refine ⟨⟨(i + 1, r.2), hx, hok2, hbl2.trans hbl, ?_⟩, by simp; omega, cut_w ?_⟩
        · rw [← hw, List.drop_drop]; congr 1
        · simp [flP, e5]
          omega
    · rw [show d.length / 4 - i = 0 by omega, wordsF] at hw
      simp
      exact fin_W (by simp [flP, ← hw])
theorem fFlProg_spec (f : Fl) (hf : f.Ok) (at_ : Int) (h1 : -2 ^ 63 ≤ at_ ∧ at_ < 2 ^ 63) (d : List UInt8) (md : Md) (hd : d.length < 2 ^ 47) : FSpec Try.prog 15 [.ptr 0 0, .int .i64 at_, .list 1 md (d.map bv)] (flP f) (.int .i64 (progF f at_ d).1) (flP (progF f at_ d).2) := by
  have hl := hf.len
  have hp := hf.pages
  refine FSpec.of_W fFlProg_low (by simp) ?_
  simp only [initEnv, progF]
  by_cases ho : f.off = true
  · simp [flP, ho]
    exact fin_W (by simp)
  simp only [Bool.not_eq_true] at ho
  have t4 : (at_.tmod 4 = 0) = (at_ % 4 = 0) := by
    apply propext
    constructor
    · intro q; have := Int.dvd_of_tmod_eq_zero q; omega
    · intro q; exact Int.tmod_eq_zero_of_dvd (by omega)
  have t5 : (d.length : Int).tmod 4 = ((d.length % 4 : Nat) : Int) := rfl
  by_cases c1 : ¬ at_ % 4 = 0
  · simp [flP, ho, t4, c1]
    exact fin_W (by simp)
  by_cases c2 : ¬ d.length % 4 = 0
  · rw [show ((d.length % 4 : Nat) : Int) = (d.length : Int) % 4 by omega] at t5
    have c3 : ¬ (d.length : Int) % 4 = 0 := by omega
    simp at c1
    simp [flP, ho, t4, c1, t5, c2, c3]
    exact fin_W (by simp)
  simp only [Classical.not_not] at c1 c2
  rw [c2] at t5
  by_cases c3 : at_ < 0
  · simp [flP, ho, t4, c1, t5, c2, c3]
    exact fin_W (by simp)
  by_cases c4 : (f.b.length : Int) < at_
  · simp [flP, ho, t4, c1, t5, c2, c3, c4]
    exact fin_W (by simp)
  have e1 : IntKind.i64.wrap ((f.b.length : Int) - at_) = (f.b.length : Int) - at_ := wrap64s (by omega) (by omega)
  by_cases c5 : (f.b.length : Int) - at_ < d.length
  · simp [flP, ho, t4, c1, t5, c2, c3, c4, c5, e1]
    exact fin_W (by simp)
  obtain ⟨a, rfl⟩ : ∃ a : Nat, at_ = a := ⟨at_.toNat, by omega⟩
  rw [if_neg (by simp [ho]), if_neg (by omega), if_neg (by omega)]
  rw [show (a : Int).toNat = a from rfl]
  obtain ⟨R, hR⟩ : ∃ R, R = (if lockd f (a : Int) d.length = true then ((4 : Int), f) else wordsF (d.length / 4) f a d) := ⟨_, rfl⟩
  rw [← hR]
  have hH : flP f = [some ⟨[.slice 1 1 0 f.b.length none, .int .i64 f.lo, .int .i64 f.hi, .int .i64 f.ops, .bool f.armed, .int .i64 f.left, .int .u32 (f.tear : Nat), .bool f.off, .slice 1 2 0 f.worn.length none], 95, true⟩, some ⟨f.b.map bv, 5, false⟩, some ⟨f.worn.map iv, 3, false⟩] := rfl
  simp [hH, ho, t4, c1, t5, c3, c4, c5, e1]
  refine W_loop (X := { k : Nat // a / 256 ≤ k ∧ k ≤ 65 ∧ ∀ j : Nat, a / 256 ≤ j → j < k → j * 256 < a + d.length → ¬ (f.lo ≤ j ∧ j < f.hi) }) (fun k => [(0, .ptr 0 0), (1, .int .i64 a), (2, .list 1 md (d.map bv)), (7, .int .i64 k.1)]) (fun k => flP f) (fun k => 65 - k.1) ⟨a / 256, by omega, by omega, fun j h1 h2 => by omega⟩ retPost_le ?_ ?_
  · refine cut_w ?_
    have e2 : IntKind.i64.wrap ((a : Int) / 256) = ((a / 256 : Nat) : Int) := by rw [show (a : Int) / 256 = ((a / 256 : Nat) : Int) by omega]; exact wrap64 (by omega) (by omega)
    rw [Int.natCast_ediv] at e2
    simp [hH, ho, e2]
  · rintro ⟨k, hk1, hk2, hk3⟩
    simp only
    have e3 : IntKind.i64.wrap ((a : Int) + d.length) = (a : Int) + d.length := wrap64s (by omega) (by omega)
    have e4 : IntKind.i64.wrap ((k : Int) * 256) = (k : Int) * 256 := wrap64s (by omega) (by omega)
    have hout : ¬ (0 < d.length ∧ k * 256 < a + d.length) → R = wordsF (d.length / 4) f a d := fun q => by
      rw [hR, if_neg]
      simp only [lockd, decide_eq_true_eq]
      rintro ⟨q0, j, j1, j2, j3, j4⟩
      have j5 : k ≤ j ∨ j < k := Nat.lt_or_ge j k |>.symm
      rcases j5 with j5 | j5
      · exact q ⟨by omega, by omega⟩
      · exact hk3 j (by omega) j5 (by omega) j4
    have hloop := fFlProg_loop f hf a d md c2 (by omega)
    rw [hH] at hloop
    by_cases g1 : ¬ 0 < d.length
    · rw [hout (fun q => g1 q.1)]
      simp [hH, g1]
      exact hloop
    by_cases g2 : ¬ (k : Int) * 256 < a + d.length
    · rw [hout (fun q => g2 (by omega))]
      simp only [Classical.not_not] at g1
      simp [hH, g1, g2, e3, e4]
      exact hloop
    simp only [Classical.not_not] at g1 g2
    have e5 : IntKind.i64.wrap ((k : Int) + 1) = (k : Int) + 1 := wrap64s (by omega) (by omega)
    simp [hH, g1, g2, e3, e4]
    refine WO_call rfl (fFlLocked_spec f k) (by simp) ?_
    simp [hH]
    rw [← Bool.decide_and]
    refine WC_dec (fun hq => ?_) (fun hq => ?_)
    · have : R = (4, f) := by
        rw [hR, if_pos]
        simp only [lockd, decide_eq_true_eq]
        exact ⟨by omega, k, by omega, by omega, by omega, hq⟩
      rw [this]
      simp
      exact fin_W (by simp [flP])
    · simp
      refine ⟨⟨k + 1, by omega, by omega, fun j j1 j2 j3 => ?_⟩, by simp; omega, cut_w ?_⟩
      · by_cases j4 : j = k
        · subst j4; exact hq
        · exact hk3 j j1 (by omega) j3
      · simp [hH, e5]
end Go.Proofs.Ytjehncilahjmdaa
