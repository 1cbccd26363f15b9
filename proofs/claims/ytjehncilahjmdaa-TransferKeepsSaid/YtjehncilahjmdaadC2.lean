/-
  Records.
-/
import Derived.Test.YtjehncilahjmdaaR1
import Derived.Test.YtjehncilahjmdaadC1
set_option linter.unusedSimpArgs false
set_option linter.unnecessarySimpa false
set_option linter.unusedVariables false
set_option linter.unusedSectionVars false
namespace Go.Proofs.Ytjehncilahjmdaa
open Go Go.Fw
attribute [local simp] bv cleanL_bv toBytes_bv ltL_bv atF_drop WS_at_bytes W_nil W_skip W_seq W_reg W_draw W_drawP W_kill W_keep W_block W_blk W_exit W_ret WX_blk WX_c WX_lp WX_li W_li W_condT W_condF W_cond WC_true WC_false
  WR_nil WR_cons WR_o1 WR_o2 o1_chk o2_chk WR_grd WG_tt WG_ff WG_tf WG_ft WG_none WS_some WS_ok1 WSr_no WSr_some WSr_ok1 WSr_at_bytes WH_some WHA_some chkF_cons chkF_nil chkE_some chkE_ok1 chkE_at evF WO_mv WO_pick WO_bin WO_isNil WO_eqA WO_un WO_convI WO_toStr WO_ofStr WO_build WO_buildF WO_load WO_nilCheck WO_fieldAddr WO_field WO_idxA WO_idxS
  WO_ixA WO_slS WO_slA WO_len WO_lenK WO_appF WO_extract WO_s2a WO_iface WO_min WO_max WO_alloc WO_box WO_buildO WO_store WO_appO WO_copy WO_makeS WO_allocA WO_makeA WO_cvt cvtF_slice WO_look lookF_map alAF mkAF WO_func bind1_v bind2_v bindH_v bindH2_v bindS_v okO_v pickO_t pickO_f
  Env.keep Env.get Env.set Env.del Env.dels Env.setO Env.opd Env.opds Env.opdO Env.parts intF aggF fillA splice cleanL AV.clean bndF fldF_one fldF_many toStrF boxF buildOF
  loadF_rptr loadF_rptrN atF_zero atF_succ blk_cons_zero blk_cons_succ loadF_p loadF_pN atB_some atBN_some retPost resL one
  okc_bool cells_bool notStr_bool okc_int cells_int notStr_int okc_str cells_str notStr_str okc_nil cells_nil notStr_nil okc_ptr cells_ptr notStr_ptr okc_rptr cells_rptr notStr_rptr okc_slice cells_slice notStr_slice 
  okc_list cells_list notStr_list okc_func cells_func notStr_func okc_nilFunc cells_nilFunc notStr_nilFunc okc_iface cells_iface notStr_iface okc_nilIface cells_nilIface notStr_nilIface okc_agg cells_agg notStr_agg 
  okc_tuple cells_tuple notStr_tuple lenF_slice lenF_list lenF_str faF_ptr faF_rptr idxSF_slice idxSF_list idxAF_ptr idxAF_rptr ixAF_many ixAF_one convF_int unF_neg unF_xor unF_not nilF_0nil nilF_0ptr nilF_0rptr nilF_1 
  nilF_2nil nilF_2f nilF_3nil nilF_3f binF_int binF_beq binF_bne binF_sadd binF_seq binF_sne sliceCells_list sliceCells_str sliceCells_slice cutC_some szAV_list szAV_str szAV_slice oneSl_list oneSl_slice slSF_sliceS 
  slSF_sliceN slSF_list slAF_rptr slAF_ptr appFF_list appOF_list appOF_sliceN appOF_sliceS storeF_ptr copyF_slice extF_tuple s2aF_slice s2aF_list nchkF_ptr nchkF_rptr nchkF_f mmF_int ofStrF_str mkSF_int eqAF_agg
attribute [local irreducible] W WX WR WO WS WSr WH WHA WG WC FSpec
attribute [local simp] lendAll
attribute [local congr] W_cg WR_cg WO_cg WS_cg WSr_cg WH_cg WHA_cg WG_cg WC_cg WX_cg
attribute [local simp] Env.has AV.wkr wkrL AV.wkr_refl wkrL_refl AV.ltI ltL leHW hasW Env.lt AV.ids idsL AV.sub subL AV.ren AV.frz frzS frzP frzE frzL Heap.frz Blk.frz Blk.ren renL rnS rnP hasR leR idsL_bv subL_bv
attribute [local simp] cleanL_take cleanL_drop ltL_take ltL_drop idsL_take idsL_drop subL_take subL_drop cleanL_append ltL_append idsL_append subL_append
attribute [local simp] renE mvN mvH
attribute [local simp] fwd backH putL bwd
attribute [local simp] u8i u8e List.idxOf_cons
attribute [local simp] hasRW leRW
attribute [local simp] WS_at_map WSr_at_map loadWP splice_full Int.natCast_inj
theorem byL4 (w : Nat) : byL 4 w = [UInt8.ofNat w, UInt8.ofNat (w / 256), UInt8.ofNat (w / 65536), UInt8.ofNat (w / 16777216)] := by
  simp [byL, List.range_succ]
theorem set4 {l : List UInt8} {n : Nat} {a b c d : UInt8} (h : n + 4 ≤ l.length) : (((l.set n a).set (n + 1) b).set (n + 1 + 1) c).set (n + 1 + 1 + 1) d = ovw l n [a, b, c, d] := by
  have h1 := ovw_snoc (b := l) (o := n) (l := []) (x := a) (by simp; omega)
  have h2 := ovw_snoc (b := l) (o := n) (l := [a]) (x := b) (by simp; omega)
  have h3 := ovw_snoc (b := l) (o := n) (l := [a, b]) (x := c) (by simp; omega)
  have h4 := ovw_snoc (b := l) (o := n) (l := [a, b, c]) (x := d) (by simp; omega)
  rw [ovw_nil] at h1
  simp only [List.length_nil, List.length_cons, List.nil_append, List.cons_append, Nat.add_zero, Nat.zero_add, Nat.reduceAdd] at h1 h2 h3 h4
  rw [h1, h2, show n + 1 + 1 = n + 2 by omega, h3, show n + 2 + 1 = n + 3 by omega, h4]
theorem fRecPut_spec (b : List UInt8) (n c w T : Nat) (ex : Bool) (hw : w < 2 ^ 32) (hn : n + 4 ≤ c) (hc : c ≤ b.length) (hb : b.length < 2 ^ 40) (hT : T < 1000000) : FSpec Try.prog 62 [.slice 1 0 0 n (some c), .int .u32 (w : Nat)] [some ⟨b.map bv, T, ex⟩] (.slice 1 0 0 (n + 4) (some c)) [some ⟨(ovw b n (byL 4 w)).map bv, T, ex⟩] := by
  have e0 : IntKind.u8.wrap (w : Int) = ((UInt8.ofNat w).toNat : Int) := wrap8_u8 w
  have e1 : IntKind.u8.wrap ((w : Int).fdiv 256) = ((UInt8.ofNat (w / 256)).toNat : Int) := by rw [show (256 : Int) = 2 ^ 8 from rfl, shr_nat]; exact wrap8_u8 _
  have e2 : IntKind.u8.wrap ((w : Int).fdiv 65536) = ((UInt8.ofNat (w / 65536)).toNat : Int) := by rw [show (65536 : Int) = 2 ^ 16 from rfl, shr_nat]; exact wrap8_u8 _
  have e3 : IntKind.u8.wrap ((w : Int).fdiv 16777216) = ((UInt8.ofNat (w / 16777216)).toNat : Int) := by rw [show (16777216 : Int) = 2 ^ 24 from rfl, shr_nat]; exact wrap8_u8 _
  rw [byL4]
  obtain ⟨x0, h0⟩ : ∃ x, x = UInt8.ofNat w := ⟨_, rfl⟩
  obtain ⟨x1, h1⟩ : ∃ x, x = UInt8.ofNat (w / 256) := ⟨_, rfl⟩
  obtain ⟨x2, h2⟩ : ∃ x, x = UInt8.ofNat (w / 65536) := ⟨_, rfl⟩
  obtain ⟨x3, h3⟩ : ∃ x, x = UInt8.ofNat (w / 16777216) := ⟨_, rfl⟩
  rw [← h0] at e0 ⊢
  rw [← h1] at e1 ⊢
  rw [← h2] at e2 ⊢
  rw [← h3] at e3 ⊢
  have hs : ((((b.map bv).set n (.int .u8 (x0.toNat : Int))).set (n + 1) (.int .u8 (x1.toNat : Int))).set (n + 1 + 1) (.int .u8 (x2.toNat : Int))).set (n + 1 + 1 + 1) (.int .u8 (x3.toNat : Int)) = (ovw b n [x0, x1, x2, x3]).map bv := by
    rw [← set4 (by omega)]
    simp only [List.map_set]
    rfl
  refine FSpec.of_W fRecPut_low (by simp) ?_
  simp only [initEnv]
  simp [IntKind.bits, e0, e1, e2, e3, hs, hn]
  refine ⟨by omega, fin_W ?_⟩
  simp
theorem fRecGet_spec (b : List UInt8) (md : Md) (k : Nat) (h : k + 4 ≤ b.length) (hb : b.length < 2 ^ 40) : FSpec Try.prog 91 [.list 1 md (b.map bv), .int .i64 (k : Nat)] [] (.int .u32 (at4 b k : Nat)) [] := by
  obtain ⟨a0, a1, a2, a3, r, hd⟩ : ∃ a0 a1 a2 a3 r, b.drop k = a0 :: a1 :: a2 :: a3 :: r := by
    have hl : 4 ≤ (b.drop k).length := by rw [List.length_drop]; omega
    generalize b.drop k = e at hl
    rcases e with _ | ⟨b0, _ | ⟨b1, _ | ⟨b2, _ | ⟨b3, r⟩⟩⟩⟩ <;> simp at hl
    exact ⟨_, _, _, _, _, rfl⟩
  have g : ∀ j (x : UInt8), (a0 :: a1 :: a2 :: a3 :: r)[j]? = some x → b[k + j]? = some x := fun j x hx => by rw [← hd, List.getElem?_drop] at hx; exact hx
  have g0 := g 0 a0 rfl
  have g1 := g 1 a1 rfl
  have g2 := g 2 a2 rfl
  have g3 := g 3 a3 rfl
  rw [Nat.add_zero] at g0
  have h4 := le4 a0 a1 a2 a3
  have e : at4 b k = byN [a0, a1, a2, a3] := by rw [at4, hd]; rfl
  rw [e]
  obtain ⟨v, hv⟩ : ∃ v, v = byN [a0, a1, a2, a3] := ⟨_, rfl⟩
  rw [← hv] at h4 ⊢
  have w1 : IntKind.i64.wrap ((k : Int) + 1) = ((k + 1 : Nat) : Int) := by rw [show (k : Int) + 1 = ((k + 1 : Nat) : Int) by omega]; exact wrap64 (by omega) (by omega)
  have w2 : IntKind.i64.wrap ((k : Int) + 2) = ((k + 2 : Nat) : Int) := by rw [show (k : Int) + 2 = ((k + 2 : Nat) : Int) by omega]; exact wrap64 (by omega) (by omega)
  have w3 : IntKind.i64.wrap ((k : Int) + 3) = ((k + 3 : Nat) : Int) := by rw [show (k : Int) + 3 = ((k + 3 : Nat) : Int) by omega]; exact wrap64 (by omega) (by omega)
  refine FSpec.of_W fRecGet_low (by simp) ?_
  simp only [initEnv]
  have t2 : ((k : Int) + 2).toNat = k + 2 := by omega
  have t3 : ((k : Int) + 3).toNat = k + 3 := by omega
  simp [w1, w2, w3, t2, t3, g0, g1, g2, g3, wrap_b32, IntKind.bits, h4]
  repeat (refine ⟨by omega, ?_⟩)
  exact fin_W (by simp)
theorem fRecSum_spec (b : List UInt8) (md : Md) (hb : b.length < 2 ^ 40) : FSpec Try.prog 63 [.list 1 md (b.map bv)] [] (.int .u32 (recSum b : Nat)) [] := by
  have hS := fCrcSum_spec [(md, b)] ⟨false, true, false⟩ (by simp) (by simp; omega)
  rw [show allB [(md, b)] = b by simp [allB]] at hS
  simp only [List.map_cons, List.map_nil, lsV] at hS
  have hlt := wn_lt (crcF 0#32 b)
  unfold recSum
  generalize wn (crcF 0#32 b) = n at *
  refine FSpec.of_W fRecSum_low (by simp) ?_
  simp only [initEnv]
  simp
  refine WO_callP [] rfl rfl hS (by simp) (by simp) ?_
  simp
  refine WC_ndec (fun h => ?_) (fun h => ?_)
  · rw [if_neg (by omega)]
    simp
    exact fin_W (by simp)
  · rw [if_pos (by omega)]
    simp
    exact fin_W (by simp)
theorem fRecRight_spec (r : Rec) (hr : r.Ok) (md : Md) (hm : md.bw = false) : FSpec Try.prog 30 [.agg (recP r md)] [] (.bool r.right) [] := by
  have hi := hr.init
  refine FSpec.of_W fRecRight_low (by simp) ?_
  simp only [initEnv, recP, Rec.right]
  have i1 : ((r.bytes : Int) ≤ 4096) = (r.bytes ≤ 4096) := propext ⟨by omega, by omega⟩
  have i2 : ((r.done : Int) ≤ 4096) = (r.done ≤ 4096) := propext ⟨by omega, by omega⟩
  have i3 : ((r.phase.toNat : Int) ≤ 2) = (r.phase.toNat ≤ 2) := propext ⟨by omega, by omega⟩
  have i4 : ((r.init.length : Int) ≤ 128) = (r.init.length ≤ 128) := propext ⟨by omega, by omega⟩
  have i5 : ((r.phase.toNat : Int) = 0) = (r.phase.toNat = 0) := propext ⟨by omega, by omega⟩
  have i6 : ((r.init.length : Int) = 0) = (r.init.length = 0) := propext ⟨by omega, by omega⟩
  have i7 : ((r.done : Int) = 0) = (r.done = 0) := propext ⟨by omega, by omega⟩
  by_cases c1 : r.bytes ≤ 4096
  · by_cases c2 : r.done ≤ 4096
    · by_cases c3 : r.phase.toNat ≤ 2
      · by_cases c4 : r.init.length ≤ 128
        · by_cases c5 : r.phase.toNat = 0
          · by_cases c6 : r.init.length = 0
            · simp [hm, i1, i2, i3, i4, i5, i6, i7, c1, c2, c3, c4, c5, c6]
              exact fin_W (by simp)
            · simp [hm, i1, i2, i3, i4, i5, i6, i7, c1, c2, c3, c4, c5, c6]
              exact fin_W (by simp)
          · simp [hm, i1, i2, i3, i4, i5, i6, i7, c1, c2, c3, c4, c5]
            exact fin_W (by simp)
        · simp [hm, i1, i2, i3, i4, i5, i6, i7, c1, c2, c3, c4]
          exact fin_W (by simp)
      · simp [hm, i1, i2, i3, i4, i5, i6, i7, c1, c2, c3]
        exact fin_W (by simp)
    · simp [hm, i1, i2, i3, i4, i5, i6, i7, c1, c2]
      exact fin_W (by simp)
  · simp [hm, i1, i2, i3, i4, i5, i6, i7, c1]
    exact fin_W (by simp)
theorem splice_ovw {l m : List UInt8} {o : Nat} (h : o + m.length ≤ l.length) : splice (l.map bv) o (m.map bv) = (ovw l o m).map bv := by
  rw [splice_take_drop _ _ _ (by simpa using h), ovw]
  simp [List.map_take, List.map_drop]
/-- A record's bytes, one number behind the other. -/
theorem ovw_app {b l : List UInt8} {n : Nat} {m : List UInt8} (hl : l.length = n) (h : n + m.length ≤ (l ++ b).length) : ovw (l ++ b) n m = l ++ m ++ b.drop m.length := by
  subst hl
  rw [ovw, List.take_left, List.drop_length_add_append]
set_option maxRecDepth 100000 in
set_option maxHeartbeats 1000000 in
theorem fRecEncode_spec (r : Rec) (hr : r.Ok) (md : Md) (hm : md.bw = false) : FSpec Try.prog 27 [.agg (recP r md)] [] (.tuple [.list 1 ⟨false, false, false⟩ ((encF r).1.map bv), .int .i64 (encF r).2]) [] := by
  have hi := hr.init
  have hR := fRecRight_spec r hr md hm
  have hR2 : r.right = true → r.init.length ≤ 128 := fun h => by
    simp only [Rec.right, decide_eq_true_eq] at h; exact h.2.2.2.1
  refine FSpec.of_W (c := (.seq (.reg fRecEncode_r0) (.seq (.seq (.reg fRecEncode_r1) (.cond (.t 9) fRecEncode_k0 (.kill [9] .skip))) (.keep [1] (.seq (.reg fRecEncode_r3) (.cut (.seq (.seq (.reg fRecEncode_r4) (.block 0 (.loop fRecEncode_l2))) (.keep [1, 4] (.seq (.draw fRecEncode_r9) (.seq (.reg fRecEncode_r10) (.seq (.draw fRecEncode_r11) (.seq (.reg fRecEncode_r12) .ret)))))))))))) fRecEncode_low (by simp) ?_
  simp only [initEnv, encF]
  obtain ⟨B, hB⟩ : ∃ B, B = recB r := ⟨_, rfl⟩
  rw [← hB]
  obtain ⟨Z, hZ⟩ : ∃ Z, Z = List.replicate 160 (0 : UInt8) := ⟨_, rfl⟩
  have hZl : Z.length = 160 := by rw [hZ, List.length_replicate]
  simp only [recP] at hR ⊢
  simp [hm]
  refine WO_callP [] rfl rfl hR (by simp) (by simp) ?_
  simp
  refine WC_b (fun h => ?_) (fun h => ?_)
  · simp at h
    simp [h]
    exact fin_W (by simp)
  · simp at h
    have hil := hR2 h
    rw [h]
    simp
    refine W_cut (cut_w (e0 := [(1, .ptr 0 0), (4, .slice 1 1 0 0 (some 160))]) (H0 := [some ⟨recP r md, 42, true⟩, some ⟨Z.map bv, 5, true⟩]) ⟨by simp, by simp, by simp, ?_⟩) ?_
    · refine ⟨⟨_, rfl, wkrL_refl _, rfl, fun _ => rfl, by simp [recP]⟩, ⟨_, rfl, ?_, rfl, fun _ => rfl, by simp⟩, trivial⟩
      rw [hZ, List.map_replicate]
      exact wkrL_refl _
    obtain ⟨ws, hws⟩ : ∃ ws : List Nat, ws = [markN, r.seq, r.floor, r.bytes, r.sum] := ⟨_, rfl⟩
    have hwl : ws.length = 5 := by rw [hws]; rfl
    have hw32 : ∀ w ∈ ws, w < 2 ^ 32 := by
      intro w hw; rw [hws] at hw; simp at hw
      rcases hw with rfl | rfl | rfl | rfl | rfl
      · decide
      · exact hr.seq
      · exact hr.floor
      · exact hr.bytes
      · exact hr.sum
    have hfl : ∀ i, i ≤ 5 → ((ws.take i).flatMap (byL 4)).length = 4 * i := by
      intro i hi
      have : ∀ l : List Nat, (l.flatMap (byL 4)).length = 4 * l.length := by
        intro l
        induction l with
        | nil => rfl
        | cons x l ih => rw [List.flatMap_cons, List.length_append, ih, byL_len, List.length_cons]; omega
      rw [this, List.length_take, hwl]; omega
    have hmap : [AV.int .u32 827216706, .int .u32 (r.seq : Nat), .int .u32 (r.floor : Nat), .int .u32 (r.bytes : Nat), .int .u32 (r.sum : Nat)] = ws.map (nV .u32) := by rw [hws]; rfl
    simp only [recP]
    simp
    rw [hmap]
    refine W_loop (X := { i : Nat // i ≤ 5 }) (fun i => [(1, .ptr 0 0), (4, .slice 1 1 0 (4 * i.1) (some 160)), (19, .list 1 ⟨false, true, false⟩ (ws.map (nV .u32))), (20, .int .i64 5), (21, .int .i64 i.1)])
      (fun i => [some ⟨recP r md, 42, true⟩, some ⟨(ovw Z 0 ((ws.take i.1).flatMap (byL 4))).map bv, 5, true⟩]) (fun i => 5 - i.1) ⟨0, by omega⟩ retPost_le ?_ ?_
    · exact cut_w (by simp [recP, ovw_nil])
    · rintro ⟨i, hi⟩
      simp only
      simp
      refine WC_dec (fun hl => ?_) (fun hl => ?_)
      · have w1 : IntKind.i64.wrap ((i : Int) + 1) = (i : Int) + 1 := wrap64s (by omega) (by omega)
        have hx : ws[i]? = some ws[i] := List.getElem?_eq_getElem (by omega)
        obtain ⟨x, hxe⟩ : ∃ x, x = ws[i] := ⟨_, rfl⟩
        have hx32 : x < 2 ^ 32 := by rw [hxe]; exact hw32 _ (List.getElem_mem (by omega))
        have hfi := hfl i (by omega)
        have htk : (ws.take (i + 1)).flatMap (byL 4) = (ws.take i).flatMap (byL 4) ++ byL 4 x := by
          rw [List.take_add_one, hx, Option.toList_some, List.flatMap_append, ← hxe]; simp
        rw [← hxe] at hx
        have hol : (ovw Z 0 ((ws.take i).flatMap (byL 4))).length = 160 := by rw [ovw_len] <;> omega
        have hP := fRecPut_spec (ovw Z 0 ((ws.take i).flatMap (byL 4))) (4 * i) 160 x 5 true hx32 (by omega) (by omega) (by omega) (by decide)
        have hov := ovw_ovw (b := Z) (o := 0) (l := (ws.take i).flatMap (byL 4)) (m := byL 4 x) (by simp only [byL_len]; omega)
        rw [hfi, Nat.zero_add, ← htk] at hov
        rw [hov] at hP
        simp [hx, nV, hwl]
        repeat (refine ⟨by omega, ?_⟩)
        refine WO_callF [1] rfl rfl hP (by simp) (by simp) (by simp) ?_
        simp
        exact ⟨⟨i + 1, by omega⟩, by simp; omega, cut_w (by simp [w1, recP, Nat.mul_add])⟩
      · have : i = 5 := by omega
        subst this
        have h20 := hfl 5 (by omega)
        have hflat : (ws.take 5).flatMap (byL 4) = byL 4 markN ++ byL 4 r.seq ++ byL 4 r.floor ++ byL 4 r.bytes ++ byL 4 r.sum := by rw [hws]; simp
        rw [hflat] at h20 ⊢
        obtain ⟨F, hF⟩ : ∃ F, F = byL 4 markN ++ byL 4 r.seq ++ byL 4 r.floor ++ byL 4 r.bytes ++ byL 4 r.sum := ⟨_, rfl⟩
        rw [← hF] at h20 ⊢
        have e8 : IntKind.u8.wrap (r.init.length : Int) = ((UInt8.ofNat r.init.length).toNat : Int) := wrap8_u8 _
        obtain ⟨ln, hln⟩ : ∃ ln, ln = UInt8.ofNat r.init.length := ⟨_, rfl⟩
        rw [← hln] at e8
        have hol : (ovw Z 0 F).length = 160 := by rw [ovw_len] <;> omega
        have hs : (((((ovw Z 0 F).map bv).set 20 (.int .u8 (r.phase.toNat : Int))).set 21 (.int .u8 (ln.toNat : Int))).set 22 (.int .u8 0)).set 23 (.int .u8 0) = (ovw Z 0 (F ++ [r.phase, ln, 0, 0])).map bv := by
          have h1 := set4 (l := ovw Z 0 F) (n := 20) (a := r.phase) (b := ln) (c := 0) (d := 0) (by omega)
          have h2 := ovw_ovw (b := Z) (o := 0) (l := F) (m := [r.phase, ln, 0, 0]) (by simp; omega)
          rw [h20, Nat.zero_add] at h2
          rw [← h2, ← h1]
          simp only [List.map_set]
          rfl
        obtain ⟨G, hG⟩ : ∃ G, G = F ++ [r.phase, ln, 0, 0] := ⟨_, rfl⟩
        have hGl : G.length = 24 := by rw [hG]; simp; omega
        rw [← hG] at hs
        have hol2 : (ovw Z 0 G).length = 160 := by rw [ovw_len] <;> omega
        have hP := fRecPut_spec (ovw Z 0 G) 24 160 r.done 5 true hr.done (by omega) (by omega) (by omega) (by decide)
        have hov := ovw_ovw (b := Z) (o := 0) (l := G) (m := byL 4 r.done) (by simp only [byL_len]; omega)
        rw [hGl, Nat.zero_add] at hov
        rw [hov] at hP
        obtain ⟨K, hK⟩ : ∃ K, K = G ++ byL 4 r.done := ⟨_, rfl⟩
        have hKl : K.length = 28 := by rw [hK, List.length_append, byL_len]; omega
        rw [← hK] at hP
        have hKr : K = recHead r := by rw [hK, hG, hF, recHead, ← hln]
        have hol3 : (ovw Z 0 K).length = 160 := by rw [ovw_len] <;> omega
        simp only [recP]
        simp [e8, hs]
        refine ⟨by omega, ?_⟩
        refine WO_callF [1] rfl rfl hP (by simp) (by simp) (by simp) ?_
        have hsp := splice_ovw (l := ovw Z 0 K) (m := r.init) (o := 28) (by omega)
        have hov2 := ovw_ovw (b := Z) (o := 0) (l := K) (m := r.init) (by omega)
        rw [hKl, Nat.zero_add] at hov2
        rw [hov2] at hsp
        have hMe : ovw Z 0 (K ++ r.init) = recBody r ++ List.replicate 4 0 := by
          rw [ovw, List.take_zero, List.nil_append, hZ, List.drop_replicate, hKr, recBody, List.append_assoc, List.append_assoc, List.append_assoc, List.replicate_append_replicate]
          congr 3
          simp [recHead_len]; omega
        have hbl := recBody_len hil
        obtain ⟨Y, hY⟩ : ∃ Y, Y = recBody r := ⟨_, rfl⟩
        have hSm := fRecSum_spec Y ⟨false, false, true⟩ (by rw [hY, hbl]; decide)
        have hslt := recSum_lt Y
        have hBY : B = Y ++ byL 4 (recSum Y) := by rw [hB, hY]; rfl
        rw [← hY] at hMe hbl
        rw [hMe] at hsp
        generalize recSum Y = s at *
        clear hY hB
        have hW4 : (byL 4 s).length = 4 := byL_len 4 s
        obtain ⟨W4, hW4e⟩ : ∃ W4, W4 = byL 4 s := ⟨_, rfl⟩
        obtain ⟨M, hM⟩ : ∃ M, M = Y ++ List.replicate 4 (0 : UInt8) := ⟨_, rfl⟩
        have hMl : M.length = 160 := by rw [hM, List.length_append, List.length_replicate]; omega
        have hP2 := fRecPut_spec M 156 160 s 5 true hslt (by omega) (by omega) (by omega) (by decide)
        rw [← hW4e] at hP2 hW4 hBY
        have hfin : ovw M 156 W4 = B := by
          have := ovw_app (l := Y) (b := List.replicate 4 0) (n := 156) (m := W4) hbl (by rw [List.length_append, List.length_replicate]; omega)
          rw [hM, this, hBY, hW4, List.drop_replicate, List.replicate_zero, List.append_nil]
        rw [hfin] at hP2
        have hBl : B.length = 160 := by rw [hBY, List.length_append]; omega
        have htk : (M.map bv).take 156 = Y.map bv := by
          rw [← List.map_take, hM, List.take_left' hbl]
        rw [← hM] at hsp
        have htk2 : (r.init.map bv).take (min r.init.length 128) = r.init.map bv := List.take_of_length_le (by simp; omega)
        simp
        rw [htk2, hsp]
        refine ⟨by omega, ?_⟩
        have hl160 : 156 ≤ M.length := by omega
        refine WO_callP (as' := [.list 1 ⟨false, false, true⟩ (Y.map bv)]) [1] rfl (by simp [htk, hl160]) hSm (by simp) (by simp) ?_
        simp
        refine WO_callF [1] rfl rfl hP2 (by simp) (by simp) (by simp) ?_
        simp
        have hBt : (B.map bv).take 160 = B.map bv := List.take_of_length_le (by simp [hBl])
        refine fin_F 1 rfl (fin_W ?_)
        simp [hBt, hBl]
end Go.Proofs.Ytjehncilahjmdaa
