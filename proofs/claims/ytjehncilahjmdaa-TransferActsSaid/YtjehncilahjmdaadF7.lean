/-
  The reference's Program.
-/
import Derived.Test.YtjehncilahjmdaadF6
set_option linter.unusedSimpArgs false
set_option linter.unnecessarySimpa false
set_option linter.unusedVariables false
set_option linter.unusedSectionVars false
namespace Go.Proofs.Ytjehncilahjmdaa
open Go Go.Fw
attribute [local simp] bv cleanL_bv toBytes_bv ltL_bv atF_drop WS_at_bytes W_nil W_skip W_seq W_reg W_draw W_drawP W_kill W_keep W_block W_blk W_exit W_ret WX_blk WX_c WX_lp WX_li W_li W_condT W_condF W_cond WC_true WC_false
  WR_nil WR_cons WR_o1 WR_o2 o1_chk o2_chk WR_grd WG_tt WG_ff WG_tf WG_ft WG_none WS_some WS_ok1 WSr_no WSr_some WSr_ok1 WSr_at_bytes WH_some WHA_some chkF_cons chkF_nil chkE_some chkE_ok1 chkE_at evF WO_mv WO_pick WO_bin WO_isNil WO_eqA WO_un WO_convI WO_toStr WO_ofStr WO_build WO_buildF WO_load WO_nilCheck WO_fieldAddr WO_field WO_idxA WO_idxS
  WO_ixA WO_slS WO_slA WO_len WO_lenK WO_appF WO_extract WO_s2a WO_iface WO_min WO_max WO_alloc WO_box WO_buildO WO_store WO_appO WO_copy WO_makeS WO_allocA WO_makeA WO_cvt cvtF_slice WO_look lookF_map alAF mkAF WO_func bind1_v bind2_v bindH_v bindH2_v bindS_v okO_v pickO_t pickO_f
  Env.keep Env.get Env.set Env.del Env.dels Env.setO Env.opd Env.opds Env.opdO Env.parts intF aggF fillA splice cleanL AV.clean bndF fldF_one fldF_many toStrF boxF buildOF
  loadF_rptr loadF_rptrN atF_zero atF_succ blk_cons_zero blk_cons_succ loadF_p loadF_pN atB_some atBN_some retPost resL one
  okc_bool cells_bool notStr_bool okc_int cells_int notStr_int okc_str cells_str notStr_str okc_nil cells_nil notStr_nil okc_ptr cells_ptr notStr_ptr okc_rptr cells_rptr notStr_rptr okc_slice cells_slice notStr_slice 
  okc_list cells_list notStr_list okc_func cells_func notStr_func okc_nilFunc cells_nilFunc notStr_nilFunc okc_iface cells_iface notStr_iface okc_nilIface cells_nilIface notStr_nilIface okc_agg cells_agg notStr_agg 
  okc_tuple cells_tuple notStr_tuple lenF_slice lenF_list lenF_str faF_ptr faF_rptr idxSF_slice idxSF_list idxAF_ptr idxAF_rptr ixAF_many ixAF_one convF_int unF_neg unF_xor unF_not nilF_0nil nilF_0ptr nilF_0rptr nilF_1 
  nilF_2nil nilF_2f nilF_3nil nilF_3f binF_int binF_beq binF_bne binF_sadd binF_seq binF_sne sliceCells_list sliceCells_str sliceCells_slice cutC_some szAV_list szAV_str szAV_slice oneSl_list oneSl_slice slSF_sliceS 
  slSF_sliceN slSF_list slAF_rptr slAF_ptr appFF_list appOF_list appOF_sliceN appOF_sliceS storeF_ptr copyF_slice extF_tuple s2aF_slice s2aF_list nchkF_ptr nchkF_rptr nchkF_f mmF_int ofStrF_str mkSF_int eqAF_agg
attribute [local irreducible] W WX WR WO WS WSr WH WHA WG WC FSpec
attribute [local simp] lendAll
attribute [local congr] W_cg WR_cg WO_cg WS_cg WSr_cg WH_cg WHA_cg WG_cg WC_cg WX_cg
attribute [local simp] Env.has AV.wkr wkrL AV.wkr_refl wkrL_refl AV.ltI ltL leHW hasW Env.lt AV.ids idsL AV.sub subL AV.ren AV.frz frzS frzP frzE frzL Heap.frz Blk.frz Blk.ren renL rnS rnP hasR leR idsL_bv subL_bv
attribute [local simp] cleanL_take cleanL_drop ltL_take ltL_drop idsL_take idsL_drop subL_take subL_drop cleanL_append ltL_append idsL_append subL_append
attribute [local simp] renE mvN mvH
attribute [local simp] fwd backH putL bwd
attribute [local simp] u8i u8e List.idxOf_cons
attribute [local simp] hasRW leRW
attribute [local simp] WS_at_map WSr_at_map loadWP splice_full Int.natCast_inj
set_option maxRecDepth 100000 in
set_option maxHeartbeats 2000000 in
theorem fRFlProg_loop (f : Fl) (hf : f.Ok) (a : Nat) (d : List UInt8) (md : Md) (hd : d.length % 4 = 0) (hle : a + d.length ≤ f.b.length) : W Try.prog 3 [It.c (.loop fRFlProg_l11), It.blk 2, It.c (.keep [] (.seq (.reg fRFlProg_r31) .ret))] [(0, .ptr 0 0), (1, .int .i64 a), (2, .list 1 md (d.map bv)), (9, .int .i64 0)] (rflP f) (retPost fRFlProg_rs (fin 3 (.int .i64 (wordsF (d.length / 4) f a d).1) (rflP (wordsF (d.length / 4) f a d).2))) := by
  have hl := hf.len
  have hp := hf.pages
  obtain ⟨R, hR⟩ : ∃ R, R = wordsF (d.length / 4) f a d := ⟨_, rfl⟩
  rw [← hR]
  refine W_loop (X := { x : Nat × Fl // 4 * x.1 ≤ d.length ∧ x.2.Ok ∧ x.2.b.length = f.b.length ∧ wordsF (d.length / 4 - x.1) x.2 (a + 4 * x.1) (d.drop (4 * x.1)) = R }) (fun x => [(0, .ptr 0 0), (1, .int .i64 a), (2, .list 1 md (d.map bv)), (9, .int .i64 ((4 * x.1.1 : Nat) : Int))]) (fun x => rflP x.1.2) (fun x => d.length - 4 * x.1.1) ⟨(0, f), by simp, hf, rfl, by simp [hR]⟩ retPost_le ?_ ?_
  · refine cut_w ?_
    simp [rflP]
  · rintro ⟨⟨i, f'⟩, hi, hok, hbl, hw⟩
    simp only at hi hok hbl hw ⊢
    simp
    refine WC_dec (fun h => ?_) (fun h => ?_)
    · have hx : 4 * i + 4 ≤ d.length := by omega
      have hst := fRFlFails_spec f' hok
      have hok2 := wordF_ok (f := f') (o := a + 4 * i) (w := (d.drop (4 * i)).take 4) hok (by omega) (by simp; omega)
      have hbl2 := wordF_len (f := f') (o := a + 4 * i) (w := (d.drop (4 * i)).take 4) (by omega) (by simp; omega)
      rw [show d.length / 4 - i = (d.length / 4 - (i + 1)) + 1 by omega, wordsF] at hw
      obtain ⟨r, hr⟩ : ∃ r, r = wordF f' (a + 4 * i) ((d.drop (4 * i)).take 4) := ⟨_, rfl⟩
      rw [← hr] at hok2 hbl2 hw
      unfold wordF at hr
      simp only at hr
      obtain ⟨was, hwas⟩ : ∃ was, was = (f'.b.drop (a + 4 * i)).take 4 := ⟨_, rfl⟩
      obtain ⟨y, hy⟩ : ∃ y, y = (d.drop (4 * i)).take 4 := ⟨_, rfl⟩
      obtain ⟨z, hz⟩ : ∃ z, z = byL 4 f'.tear := ⟨_, rfl⟩
      have hwl : was.length = 4 := by rw [hwas]; exact was_len (by omega)
      have hyl : y.length = 4 := by rw [hy]; simp; omega
      have hzl : z.length = 4 := by rw [hz]; exact byL_len _ _
      have ht := hok.tear
      rw [← hwas, ← hy, ← hz] at hr
      obtain ⟨b1, b2, b3, b4, b5⟩ := stepF_b f'
      obtain ⟨w, g, hwg⟩ : ∃ w g, stepF f' = (w, g) := ⟨_, _, rfl⟩
      rw [hwg] at hst hr b1 b2 b3 b4 b5
      simp only at hst hr b1 b2 b3 b4 b5
      obtain ⟨X, hX⟩ : ∃ X, X = if w = true then andB was y else tornB was y z := ⟨_, rfl⟩
      have hXl : X.length = 4 := by
        rw [hX]; split
        · rw [andB_len (by omega)]; omega
        · rw [tornB_len (by omega) (by omega)]; omega
      have hXk : ∀ k (hk : k < 4), X[k]'(by omega) = if w = true then was[k] &&& y[k] else was[k] &&& ~~~(~~~y[k] &&& z[k]) := by
        intro k hk
        apply Option.some.inj
        rw [← List.getElem?_eq_getElem, hX]
        split
        · exact andB_get (by omega) (by omega)
        · exact tornB_get (by omega) (by omega) (by omega)
      have hbk : ∀ k (hk : k < 4), f'.b[a + 4 * i + k]? = some was[k] := by
        intro k hk
        rw [← List.getElem?_eq_getElem]
        rw [hwas, List.getElem?_take_of_lt hk, List.getElem?_drop]
      have hdk : ∀ k (hk : k < 4), d[4 * i + k]? = some y[k] := by
        intro k hk
        rw [← List.getElem?_eq_getElem]
        rw [hy, List.getElem?_take_of_lt hk, List.getElem?_drop]
      have hzk : ∀ k (hk : k < 4), z[k] = UInt8.ofNat (f'.tear / 256 ^ k) := by
        intro k hk
        apply Option.some.inj
        rw [← List.getElem?_eq_getElem, hz]
        exact byL_get hk
      simp
      refine WO_call rfl hst (by simp) ?_
      simp
      refine W_loop (X := { k : Nat // k ≤ 4 }) (fun k => [(0, .ptr 0 0), (1, .int .i64 a), (2, .list 1 md (d.map bv)), (9, .int .i64 (4 * i : Nat)), (10, .bool (!w)), (11, .bool (riseB (was.take k.1) (y.take k.1))), (12, .int .i64 k.1)])
        (fun k => [some ⟨[.slice 1 1 0 f'.b.length none, .int .i64 f'.lo, .int .i64 f'.hi, .bool g.armed, .int .i64 g.left, .int .u32 (f'.tear : Nat), .bool g.off, .slice 1 2 0 f'.worn.length none, .int .i64 g.ops], 57, true⟩, some ⟨(ovw f'.b (a + 4 * i) (X.take k.1)).map bv, 5, false⟩, some ⟨f'.worn.map iv, 3, false⟩]) (fun k => 4 - k.1) ⟨0, by omega⟩ retPost_le ?_ ?_
      · refine cut_w ?_
        simp [rflP, b1, b2, b3, b4, b5, ovw_nil, riseB]
      · rintro ⟨k, hk⟩
        simp only
        simp
        refine WC_dec (fun hlt => ?_) (fun hlt => ?_)
        · have hk4 : k < 4 := by omega
          have w1 : IntKind.i64.wrap ((a : Int) + 4 * (i : Int)) = ((a + 4 * i : Nat) : Int) := by rw [show (a : Int) + 4 * i = ((a + 4 * i : Nat) : Int) by omega]; exact wrap64 (by omega) (by omega)
          have w2 : IntKind.i64.wrap ((a : Int) + 4 * (i : Int) + (k : Int)) = ((a + 4 * i + k : Nat) : Int) := by rw [show (a : Int) + 4 * i + k = ((a + 4 * i + k : Nat) : Int) by omega]; exact wrap64 (by omega) (by omega)
          have w3 : IntKind.i64.wrap (4 * (i : Int) + (k : Int)) = ((4 * i + k : Nat) : Int) := by rw [show 4 * (i : Int) + k = ((4 * i + k : Nat) : Int) by omega]; exact wrap64 (by omega) (by omega)
          have w4 : IntKind.i64.wrap (8 * (k : Int)) = ((8 * k : Nat) : Int) := by rw [show (8 : Int) * k = ((8 * k : Nat) : Int) by omega]; exact wrap64 (by omega) (by omega)
          have w5 : IntKind.i64.wrap ((k : Int) + 1) = (k : Int) + 1 := wrap64s (by omega) (by omega)
          push_cast at w1 w2 w3 w4
          have n1 : ((a : Int) + 4 * (i : Int) + (k : Int)).toNat = a + 4 * i + k := by omega
          have n2 : (4 * (i : Int) + (k : Int)).toNat = 4 * i + k := by omega
          have e2 : ((f'.tear : Nat) : Int).fdiv (2 ^ min (8 * (k : Int)).toNat 32) = ((f'.tear / 256 ^ k : Nat) : Int) := by rw [show min (8 * (k : Int)).toNat 32 = 8 * k by omega, show (256 : Nat) ^ k = 2 ^ (8 * k) by rw [Nat.pow_mul]]; exact shr_nat _ _
          have e3 := wrap8_u8 (f'.tear / 256 ^ k)
          have hXt : (X.take k).length = k := by simp; omega
          have hget : (ovw f'.b (a + 4 * i) (X.take k))[a + 4 * i + k]? = some was[k] := by
            rw [ovw, hXt, List.append_assoc, List.getElem?_append_right (by simp; omega), List.length_take, Nat.min_eq_left (by omega), Nat.add_sub_cancel_left, List.getElem?_append_right (by omega), hXt, Nat.sub_self, List.getElem?_drop, Nat.add_zero]
            exact hbk k hk4
          have hset : ∀ x, x = X[k]'(by omega) → ((ovw f'.b (a + 4 * i) (X.take k)).map bv).set (a + 4 * i + k) (.int .u8 (x.toNat : Int)) = (ovw f'.b (a + 4 * i) (X.take (k + 1))).map bv := by
            intro x hx
            rw [List.take_succ_eq_append_getElem (by omega), ← hx, ← ovw_snoc (by omega), hXt, List.map_set]
            rfl
          have hol : (ovw f'.b (a + 4 * i) (X.take k)).length = f'.b.length := ovw_len (by omega)
          have hol2 : (ovw f'.b (a + 4 * i) (X.take (k + 1))).length = f'.b.length := ovw_len (by simp; omega)
          have hdk4 := hdk k hk4
          have hXk4 := hXk k hk4
          rw [hzk k hk4] at hXk4
          have hrs := riseB_succ (was := was) (d := y) (k := k) (by omega) (by omega)
          obtain ⟨x, hxe⟩ : ∃ x, x = was[k] := ⟨_, rfl⟩
          obtain ⟨u, hue⟩ : ∃ u, u = y[k] := ⟨_, rfl⟩
          rw [← hxe] at hget hXk4 hrs
          rw [← hue] at hdk4 hXk4 hrs
          obtain ⟨v, hv⟩ : ∃ v, v = f'.tear / 256 ^ k := ⟨_, rfl⟩
          rw [← hv] at e2 e3 hXk4
          obtain ⟨t, hte⟩ : ∃ t, t = UInt8.ofNat v := ⟨_, rfl⟩
          rw [← hte] at e3 hXk4
          have a1 := bitI_andNot8 x u
          have a2 := bitI_andNot8 u x
          have a3 : bitI .and .u8 ((x &&& ~~~u).toNat : Int) (t.toNat : Int) = ((x &&& ~~~u &&& t).toNat : Int) := by rw [bitI_and rfl (UInt8.toNat_lt _) t.toNat_lt, UInt8.toNat_and (x &&& ~~~u) t]
          have a4 := u8_sub x (x &&& ~~~u) (u8_in x u t).2
          have a5 := u8_sub x (x &&& ~~~u &&& t) (u8_in x u t).1
          rw [u8_and] at a4
          rw [u8_drop] at a5
          obtain ⟨rb, hrb⟩ : ∃ rb, rb = riseB (was.take k) (y.take k) := ⟨_, rfl⟩
          rw [← hrb] at hrs
          rw [← hrb]
          obtain ⟨x1, hx1⟩ : ∃ x1, x1 = x &&& ~~~u := ⟨_, rfl⟩
          obtain ⟨x2, hx2⟩ : ∃ x2, x2 = x1 &&& t := ⟨_, rfl⟩
          obtain ⟨x3, hx3⟩ : ∃ x3, x3 = u &&& ~~~x := ⟨_, rfl⟩
          rw [← hx1] at a1 a3 a4 a5
          rw [← hx2] at a3 a5
          rw [← hx3] at a2 hrs
          obtain ⟨x4, hx4⟩ : ∃ x4, x4 = x &&& u := ⟨_, rfl⟩
          obtain ⟨x5, hx5⟩ : ∃ x5, x5 = x &&& ~~~(~~~u &&& t) := ⟨_, rfl⟩
          rw [← hx4] at a4 hXk4
          rw [← hx5] at a5 hXk4
          have hx3d : (x3 != 0) = !decide (x3.toNat = 0) := by
            by_cases q : x3 = 0
            · subst q; rfl
            · have : ¬ x3.toNat = 0 := fun z => q (UInt8.toNat_inj.1 z)
              simp [q, this]
          rw [hx3d] at hrs
          clear hXk hbk hdk hzk hR
          cases w
          · rw [if_neg (by simp)] at hXk4
            have hs1 := hset _ hXk4.symm
            cases rb
            · simp [w1, w2, w3, w4, n1, n2, e2, e3, a3, a5, hget, hdk4, a1, a2, IntKind.bits, hol]
              repeat (refine ⟨by omega, ?_⟩)
              exact ⟨⟨k + 1, by omega⟩, by simp; omega, cut_w (by simp [w5, hrs, hs1])⟩
            · simp [w1, w2, w3, w4, n1, n2, e2, e3, a3, a5, hget, hdk4, a1, a2, IntKind.bits, hol]
              repeat (refine ⟨by omega, ?_⟩)
              exact ⟨⟨k + 1, by omega⟩, by simp; omega, cut_w (by simp [w5, hrs, hs1])⟩
          · rw [if_pos rfl] at hXk4
            have hs1 := hset _ hXk4.symm
            cases rb
            · simp [w1, w2, w3, w4, n1, n2, a4, hget, hdk4, a1, a2, IntKind.bits, hol]
              repeat (refine ⟨by omega, ?_⟩)
              exact ⟨⟨k + 1, by omega⟩, by simp; omega, cut_w (by simp [w5, hrs, hs1])⟩
            · simp [w1, w2, w3, w4, n1, n2, a4, hget, hdk4, a1, a2, IntKind.bits, hol]
              repeat (refine ⟨by omega, ?_⟩)
              exact ⟨⟨k + 1, by omega⟩, by simp; omega, cut_w (by simp [w5, hrs, hs1])⟩
        · have : k = 4 := by omega
          subst this
          have hXt : X.take 4 = X := List.take_of_length_le (by omega)
          have hwt : was.take 4 = was := List.take_of_length_le (by omega)
          have hyt : y.take 4 = y := List.take_of_length_le (by omega)
          have hol : (ovw f'.b (a + 4 * i) X).length = f'.b.length := ovw_len (by omega)
          have hri := riseB_iff (was := was) (d := y) (by omega)
          rw [hXt, hwt, hyt]
          cases w
          · rw [if_neg (by simp)] at hX
            rw [if_pos rfl, ← hX] at hr
            rw [hr, if_neg (by simp)] at hw
            subst hw
            simp
            exact fin_W (by simp [rflP, b2, b3, b4, b5, hol])
          · rw [if_pos rfl] at hX
            rw [if_neg (by simp), ← hX] at hr
            rw [← hX] at hri
            cases hrb : riseB was y
            · rw [if_pos (hri.1 hrb)] at hr
              rw [hr, if_pos rfl] at hw
              simp
              have w6 : IntKind.i64.wrap (4 * (i : Int) + 4) = 4 * (i : Int) + 4 := wrap64s (by omega) (by omega)
              refine ⟨⟨(i + 1, r.2), hx, hok2, hbl2.trans hbl, ?_⟩, by simp; omega, cut_w ?_⟩
              · rw [hr, ← hw, List.drop_drop]; congr 1
              · simp [rflP, hr, b2, b3, b4, b5, hol, w6]
                omega
            · have hne : ¬ X = y := fun q => by rw [hri.2 q] at hrb; cases hrb
              rw [if_neg hne] at hr
              rw [hr, if_neg (by simp)] at hw
              subst hw
              simp
              exact fin_W (by simp [rflP, b2, b3, b4, b5, hol])
    · rw [show d.length / 4 - i = 0 by omega, wordsF] at hw
      simp
      exact fin_W (by simp [rflP, ← hw])
/-- Is no byte ahead of so many locked? -/
def freeTo (f : Fl) (a k : Nat) : Prop := ∀ j : Nat, j < k → ¬ (f.lo ≤ ((a + j) / 256 : Nat) ∧ (((a + j) / 256 : Nat) : Int) < f.hi)
set_option maxRecDepth 100000 in
set_option maxHeartbeats 2000000 in
theorem fRFlProg_spec (f : Fl) (hf : f.Ok) (at_ : Int) (h1 : -2 ^ 63 ≤ at_ ∧ at_ < 2 ^ 63) (d : List UInt8) (md : Md) (hd : d.length < 2 ^ 47) : FSpec Try.prog 67 [.ptr 0 0, .int .i64 at_, .list 1 md (d.map bv)] (rflP f) (.int .i64 (progF f at_ d).1) (rflP (progF f at_ d).2) := by
  have hl := hf.len
  have hp := hf.pages
  refine FSpec.of_W fRFlProg_low (by simp) ?_
  simp only [initEnv, progF]
  by_cases ho : f.off = true
  · simp [rflP, ho]
    exact fin_W (by simp)
  simp only [Bool.not_eq_true] at ho
  have t4 : (at_.tmod 4 = 0) = (at_ % 4 = 0) := by
    apply propext
    constructor
    · intro q; have := Int.dvd_of_tmod_eq_zero q; omega
    · intro q; exact Int.tmod_eq_zero_of_dvd (by omega)
  have t5 : (d.length : Int).tmod 4 = ((d.length % 4 : Nat) : Int) := rfl
  by_cases c1 : ¬ at_ % 4 = 0
  · simp [rflP, ho, t4, c1]
    exact fin_W (by simp)
  by_cases c2 : ¬ d.length % 4 = 0
  · rw [show ((d.length % 4 : Nat) : Int) = (d.length : Int) % 4 by omega] at t5
    have c3 : ¬ (d.length : Int) % 4 = 0 := by omega
    simp at c1
    simp [rflP, ho, t4, c1, t5, c2, c3]
    exact fin_W (by simp)
  simp only [Classical.not_not] at c1 c2
  rw [c2] at t5
  by_cases c3 : at_ < 0
  · simp [rflP, ho, t4, c1, t5, c2, c3]
    exact fin_W (by simp)
  by_cases c4 : (f.b.length : Int) < at_
  · simp [rflP, ho, t4, c1, t5, c2, c3, c4]
    exact fin_W (by simp)
  have e1 : IntKind.i64.wrap ((f.b.length : Int) - at_) = (f.b.length : Int) - at_ := wrap64s (by omega) (by omega)
  by_cases c5 : (f.b.length : Int) - at_ < d.length
  · simp [rflP, ho, t4, c1, t5, c2, c3, c4, c5, e1]
    exact fin_W (by simp)
  obtain ⟨a, rfl⟩ : ∃ a : Nat, at_ = a := ⟨at_.toNat, by omega⟩
  rw [if_neg (by simp [ho]), if_neg (by omega), if_neg (by omega)]
  rw [show (a : Int).toNat = a from rfl]
  obtain ⟨R, hR⟩ : ∃ R, R = (if lockd f (a : Int) d.length = true then ((4 : Int), f) else wordsF (d.length / 4) f a d) := ⟨_, rfl⟩
  rw [← hR]
  have hH : rflP f = [some ⟨[.slice 1 1 0 f.b.length none, .int .i64 f.lo, .int .i64 f.hi, .bool f.armed, .int .i64 f.left, .int .u32 (f.tear : Nat), .bool f.off, .slice 1 2 0 f.worn.length none, .int .i64 f.ops], 57, true⟩, some ⟨f.b.map bv, 5, false⟩, some ⟨f.worn.map iv, 3, false⟩] := rfl
  simp [hH, ho, t4, c1, t5, c3, c4, c5, e1]
  refine W_loop (X := { k : Nat // k ≤ d.length ∧ freeTo f a k }) (fun k => [(0, .ptr 0 0), (1, .int .i64 a), (2, .list 1 md (d.map bv)), (7, .int .i64 k.1)]) (fun k => rflP f) (fun k => d.length - k.1) ⟨0, by omega, fun j h1 => by omega⟩ retPost_le ?_ ?_
  · refine cut_w ?_
    simp [hH, ho]
  · rintro ⟨k, hk2, hk3⟩
    simp only
    simp
    refine WC_dec (fun hlt => ?_) (fun hlt => ?_)
    · have e3 : IntKind.i64.wrap ((a : Int) + k) = (a : Int) + k := wrap64s (by omega) (by omega)
      obtain ⟨q, hq⟩ : ∃ q, q = (a + k) / 256 := ⟨_, rfl⟩
      have e4 : ((a : Int) + k).tdiv 256 = ((q : Nat) : Int) := by rw [hq]; rfl
      have e5 : IntKind.i64.wrap ((q : Nat) : Int) = ((q : Nat) : Int) := wrap64 (by omega) (by omega)
      have e6 : IntKind.i64.wrap ((k : Int) + 1) = (k : Int) + 1 := wrap64s (by omega) (by omega)
      have e7 : IntKind.i64.wrap (((a : Int) + k) / 256) = ((q : Nat) : Int) := by rw [show ((a : Int) + k) / 256 = ((q : Nat) : Int) by omega]; exact e5
      by_cases g : f.lo ≤ (q : Int) ∧ (q : Int) < f.hi
      · have : R = (4, f) := by
          rw [hR, if_pos]
          simp only [lockd, decide_eq_true_eq]
          exact ⟨by omega, q, by omega, by omega, by omega, g⟩
        rw [this]
        simp [hH, e3, e4, e5, e7, g.1, g.2]
        exact fin_W (by simp [rflP])
      · have next : LI 3 (fun k : { k : Nat // k ≤ d.length ∧ freeTo f a k } => [(0, .ptr 0 0), (1, .int .i64 a), (2, .list 1 md (d.map bv)), (7, .int .i64 k.1)]) (fun k => rflP f) (fun k => d.length - k.1) ⟨k, hk2, hk3⟩ [(0, .ptr 0 0), (1, .int .i64 a), (2, .list 1 md (d.map bv)), (7, .int .i64 ((k : Int) + 1))] (rflP f) := by
          refine ⟨⟨k + 1, by omega, fun j j1 => ?_⟩, by simp; omega, cut_w ?_⟩
          · by_cases j4 : j = k
            · subst j4; rw [← hq]; exact g
            · exact hk3 j (by omega)
          · simp [hH]
        rw [hH] at next
        by_cases g1 : f.lo ≤ (q : Int)
        · have g2 : ¬ (q : Int) < f.hi := fun z => g ⟨g1, z⟩
          simp [hH, e3, e4, e5, e6, e7, g1, g2]
          exact next
        · simp [hH, e3, e4, e5, e6, e7, g1]
          exact next
    · have : k = d.length := by omega
      subst this
      have hout : R = wordsF (d.length / 4) f a d := by
        rw [hR, if_neg]
        simp only [lockd, decide_eq_true_eq]
        rintro ⟨q0, j, j0, j1, j2, j3, j4⟩
        by_cases j5 : a ≤ j * 256
        · refine hk3 (j * 256 - a) (by omega) ?_
          rw [show (a + (j * 256 - a)) / 256 = j by omega]
          exact ⟨j3, j4⟩
        · refine hk3 0 (by omega) ?_
          rw [show (a + 0) / 256 = j by omega]
          exact ⟨j3, j4⟩
      rw [hout]
      have hloop := fRFlProg_loop f hf a d md c2 (by omega)
      rw [hH] at hloop
      simp [hH]
      exact hloop
end Go.Proofs.Ytjehncilahjmdaa
