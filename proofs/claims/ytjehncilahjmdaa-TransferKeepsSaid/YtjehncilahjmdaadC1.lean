/-
  The check sum.
-/
import Derived.Test.YtjehncilahjmdaaC1
import Derived.Test.YtjehncilahjmdaadKC
set_option linter.unusedSimpArgs false
set_option linter.unnecessarySimpa false
set_option linter.unusedVariables false
set_option linter.unusedSectionVars false
namespace Go.Proofs.Ytjehncilahjmdaa
open Go Go.Fw
attribute [local simp] bv cleanL_bv toBytes_bv ltL_bv atF_drop WS_at_bytes W_nil W_skip W_seq W_reg W_draw W_drawP W_kill W_keep W_block W_blk W_exit W_ret WX_blk WX_c WX_lp WX_li W_li W_condT W_condF W_cond WC_true WC_false
  WR_nil WR_cons WR_o1 WR_o2 o1_chk o2_chk WR_grd WG_tt WG_ff WG_tf WG_ft WG_none WS_some WS_ok1 WSr_no WSr_some WSr_ok1 WSr_at_bytes WH_some WHA_some chkF_cons chkF_nil chkE_some chkE_ok1 chkE_at evF WO_mv WO_pick WO_bin WO_isNil WO_eqA WO_un WO_convI WO_toStr WO_ofStr WO_build WO_buildF WO_load WO_nilCheck WO_fieldAddr WO_field WO_idxA WO_idxS
  WO_ixA WO_slS WO_slA WO_len WO_lenK WO_appF WO_extract WO_s2a WO_iface WO_min WO_max WO_alloc WO_box WO_buildO WO_store WO_appO WO_copy WO_makeS WO_allocA WO_makeA WO_cvt cvtF_slice WO_look lookF_map alAF mkAF WO_func bind1_v bind2_v bindH_v bindH2_v bindS_v okO_v pickO_t pickO_f
  Env.keep Env.get Env.set Env.del Env.dels Env.setO Env.opd Env.opds Env.opdO Env.parts intF aggF fillA splice cleanL AV.clean bndF fldF_one fldF_many toStrF boxF buildOF
  loadF_rptr loadF_rptrN atF_zero atF_succ blk_cons_zero blk_cons_succ loadF_p loadF_pN atB_some atBN_some retPost resL one
  okc_bool cells_bool notStr_bool okc_int cells_int notStr_int okc_str cells_str notStr_str okc_nil cells_nil notStr_nil okc_ptr cells_ptr notStr_ptr okc_rptr cells_rptr notStr_rptr okc_slice cells_slice notStr_slice 
  okc_list cells_list notStr_list okc_func cells_func notStr_func okc_nilFunc cells_nilFunc notStr_nilFunc okc_iface cells_iface notStr_iface okc_nilIface cells_nilIface notStr_nilIface okc_agg cells_agg notStr_agg 
  okc_tuple cells_tuple notStr_tuple lenF_slice lenF_list lenF_str faF_ptr faF_rptr idxSF_slice idxSF_list idxAF_ptr idxAF_rptr ixAF_many ixAF_one convF_int unF_neg unF_xor unF_not nilF_0nil nilF_0ptr nilF_0rptr nilF_1 
  nilF_2nil nilF_2f nilF_3nil nilF_3f binF_int binF_beq binF_bne binF_sadd binF_seq binF_sne sliceCells_list sliceCells_str sliceCells_slice cutC_some szAV_list szAV_str szAV_slice oneSl_list oneSl_slice slSF_sliceS 
  slSF_sliceN slSF_list slAF_rptr slAF_ptr appFF_list appOF_list appOF_sliceN appOF_sliceS storeF_ptr copyF_slice extF_tuple s2aF_slice s2aF_list nchkF_ptr nchkF_rptr nchkF_f mmF_int ofStrF_str mkSF_int eqAF_agg
attribute [local irreducible] W WX WR WO WS WSr WH WHA WG WC FSpec
attribute [local simp] lendAll
attribute [local congr] W_cg WR_cg WO_cg WS_cg WSr_cg WH_cg WHA_cg WG_cg WC_cg WX_cg
attribute [local simp] Env.has AV.wkr wkrL AV.wkr_refl wkrL_refl AV.ltI ltL leHW hasW Env.lt AV.ids idsL AV.sub subL AV.ren AV.frz frzS frzP frzE frzL Heap.frz Blk.frz Blk.ren renL rnS rnP hasR leR idsL_bv subL_bv
attribute [local simp] cleanL_take cleanL_drop ltL_take ltL_drop idsL_take idsL_drop subL_take subL_drop cleanL_append ltL_append idsL_append subL_append
attribute [local simp] renE mvN mvH
attribute [local simp] fwd backH putL bwd
attribute [local simp] u8i u8e List.idxOf_cons
attribute [local simp] hasRW leRW
attribute [local simp] WS_at_map WSr_at_map WS_at_arr WSr_at_arr loadWP splice_full Int.natCast_inj fill_zero arr_set arr_take
theorem z256 : List.replicate 256 (AV.int .u32 0) = arr .u32 256 fun _ => 0 := arr_replicate .u32 256 0
theorem wn_poly : ((3988292384 : Int)) = (wn poly : Nat) := by decide
theorem wn_ofNat_lt {n : Nat} (h : n < 2 ^ 32) : wn (BitVec.ofNat 32 n) = n := by unfold wn; rw [BitVec.toNat_ofNat, Nat.mod_eq_of_lt h]
theorem and1_u32 {a : Nat} (ha : a < 2 ^ 32) : bitI .and .u32 (a : Int) 1 = (a % 2 : Nat) := by
  have := bitI_and (k := .u32) rfl (a := a) (b := 1) ha (by decide)
  rw [← Nat.and_one_is_mod]; exact this
theorem wn_fB (c : BitVec 32) : wn (fB c) = if wn c % 2 = 1 then wn ((c >>> 1) ^^^ poly) else wn (c >>> 1) := by
  have h := wn_bit0 c
  unfold fB
  by_cases h0 : c.getLsbD 0 = true
  · rw [h0, if_pos rfl] at h
    rw [if_pos h, h0, if_pos rfl]
  · rw [if_neg h0] at h
    rw [if_neg (show ¬ wn c % 2 = 1 by omega), show (if c.getLsbD 0 = true then poly else 0#32) = 0#32 from if_neg h0, BitVec.xor_zero]
/-- The table. -/
def tabC (i : Nat) : Nat := wn (fBn 8 (BitVec.ofNat 32 i))
set_option maxRecDepth 100000 in
theorem fCrcTable_spec : FSpec Try.prog 88 [] [] (.agg (arr .u32 256 tabC)) [] := by
  refine FSpec.of_W fCrcTable_low (by simp) ?_
  simp only [initEnv]
  simp
  refine W_loop (X := { i : Nat // i ≤ 256 }) (fun i => [(0, .ptr 0 0), (1, .ptr 1 0), (4, .int .i64 i.1)]) (fun i => [some ⟨arr .u32 256 fun _ => 0, 132, true⟩, some ⟨arr .u32 256 (fill i.1 tabC), 132, true⟩]) (fun i => 256 - i.1) ⟨0, by omega⟩ retPost_le ?_ ?_
  · refine cut_w ⟨by simp, by simp, by simp, ?_⟩
    simp only [fill_zero]
    rw [← z256]
    exact ⟨⟨_, rfl, wkrL_refl _, rfl, fun _ => rfl, by rw [z256]; simp⟩, ⟨_, rfl, wkrL_refl _, rfl, fun _ => rfl, by rw [z256]; simp⟩, trivial⟩
  · rintro ⟨i, hi⟩
    simp only
    simp
    refine WC_dec (fun h => ?_) (fun h => ?_)
    · have w1 : IntKind.i64.wrap ((i : Int) + 1) = (i : Int) + 1 := wrap64s (by omega) (by omega)
      have e1 : IntKind.u32.wrap (i : Int) = (wn (BitVec.ofNat 32 i) : Nat) := by rw [wrapu32, wn_ofNat_lt (by omega), Nat.mod_eq_of_lt (by omega)]
      simp [e1]
      refine W_loop (X := { k : Nat // k ≤ 8 }) (fun k => [(0, .ptr 0 0), (1, .ptr 1 0), (2, .int .i64 i), (3, .int .u32 (wn (fBn k.1 (BitVec.ofNat 32 i)) : Nat)), (4, .int .i64 i), (9, .int .i64 k.1)]) (fun _ => [some ⟨arr .u32 256 fun _ => 0, 132, true⟩, some ⟨arr .u32 256 (fill i tabC), 132, true⟩]) (fun k => 8 - k.1) ⟨0, by omega⟩ retPost_le ?_ ?_
      · exact cut_w (by simp [fBn])
      · rintro ⟨k, hk⟩
        simp only
        simp
        refine WC_dec (fun h => ?_) (fun h => ?_)
        · have w2 : IntKind.i64.wrap ((k : Int) + 1) = (k : Int) + 1 := wrap64s (by omega) (by omega)
          obtain ⟨c, hc⟩ : ∃ c, c = fBn k (BitVec.ofNat 32 i) := ⟨_, rfl⟩
          have hn : fBn (k + 1) (BitVec.ofNat 32 i) = fB c := by rw [hc]; rfl
          have hf := wn_fB c
          have e2 := and1_u32 (wn_lt c)
          have e3 : ((wn c : Nat) : Int).fdiv 2 = (wn (c >>> 1) : Nat) := wx_shr c 1
          have e4 : bitI .xor .u32 (wn (c >>> 1) : Nat) 3988292384 = (wn ((c >>> 1) ^^^ poly) : Nat) := by rw [wn_poly]; exact wx_xor rfl (by decide) _ _
          obtain ⟨b, hb⟩ : ∃ b, b = wn c % 2 := ⟨_, rfl⟩
          rw [← hb] at e2 hf
          rw [← hc]
          simp [e2]
          refine WC_dec (fun hq => ?_) (fun hq => ?_)
          · rw [if_pos (by omega)] at hf
            simp [e3, e4, IntKind.bits]
            exact ⟨⟨k + 1, by omega⟩, by simp; omega, cut_w (by simp [w2, hn, hf])⟩
          · rw [if_neg (by omega)] at hf
            simp [e3, IntKind.bits]
            exact ⟨⟨k + 1, by omega⟩, by simp; omega, cut_w (by simp [w2, hn, hf])⟩
        · have : k = 8 := by omega
          subst this
          have e5 : upd (fill i tabC) i (wn (fBn 8 (BitVec.ofNat 32 i))) = fill (i + 1) tabC := upd_fill i tabC
          simp [e5]
          repeat (refine ⟨by omega, ?_⟩)
          exact ⟨⟨i + 1, by omega⟩, by simp; omega, cut_w (by simp [w1])⟩
    · have : i = 256 := by omega
      subst this
      simp [arr_fill]
      exact fin_W (by simp)
theorem xB_wn (x : UInt8) : wn (xB x) = x.toNat := by
  unfold xB; exact wn_ofNat_lt (by have := x.toNat_lt; omega)
theorem tab_idx (c : BitVec 32) (x : UInt8) : BitVec.ofNat 32 ((wn c % 256) ^^^ x.toNat) = (c ^^^ xB x) &&& 255#32 := by
  apply BitVec.eq_of_toNat_eq
  have h1 : (wn c % 256) ^^^ x.toNat < 2 ^ 8 := Nat.xor_lt_two_pow (Nat.mod_lt _ (by decide)) x.toNat_lt
  rw [BitVec.toNat_ofNat, Nat.mod_eq_of_lt (by omega), BitVec.toNat_and, BitVec.toNat_xor, BitVec.toNat_ofNat, show (255 : Nat) % 2 ^ 32 = 2 ^ 8 - 1 from rfl, Nat.and_two_pow_sub_one_eq_mod, Nat.xor_mod_two_pow]
  have : (xB x).toNat = x.toNat := xB_wn x
  rw [this, Nat.mod_eq_of_lt (show x.toNat < 2 ^ 8 from x.toNat_lt)]
  rfl
theorem tab_step (c : BitVec 32) (x : UInt8) : wn (stepC c x) = tabC ((wn c % 256) ^^^ x.toNat) ^^^ wn (c >>> 8) := by
  rw [stepC_table, tabC, tab_idx]
  exact BitVec.toNat_xor _ _
set_option maxRecDepth 100000 in
theorem fCrcUpdate_spec (s : BitVec 32) (b : List UInt8) (md : Md) (hb : b.length < 2 ^ 62) : FSpec Try.prog 79 [.int .u32 (wn s : Nat), .list 1 md (b.map bv)] [] (.int .u32 (wn (crcF s b) : Nat)) [] := by
  have hT := fCrcTable_spec
  have hz : ∀ n, tabC n < 2 ^ 32 := fun n => wn_lt _
  refine FSpec.of_W fCrcUpdate_low (by simp) ?_
  simp only [initEnv]
  simp
  refine WO_callP [] rfl rfl hT (by simp) (by simp) ?_
  simp
  refine W_loop (X := { i : Nat // i ≤ b.length }) (fun i => [(5, .ptr 0 0), (6, .int .u32 (wn (crcN (~~~ s) (b.take i.1)) : Nat)), (12, .list 1 md (b.map bv)), (13, .int .i64 b.length), (14, .int .i64 i.1)]) (fun _ => [some ⟨arr .u32 256 tabC, 132, true⟩]) (fun i => b.length - i.1) ⟨0, by omega⟩ retPost_le ?_ ?_
  · exact cut_w (by simp [crcN, wx_not32])
  · rintro ⟨i, hi⟩
    simp only
    simp
    refine WC_dec (fun h => ?_) (fun h => ?_)
    · have w1 : IntKind.i64.wrap ((i : Int) + 1) = (i : Int) + 1 := wrap64s (by omega) (by omega)
      have hx : b[i]? = some b[i] := List.getElem?_eq_getElem (by omega)
      obtain ⟨x, hxe⟩ : ∃ x, x = b[i] := ⟨_, rfl⟩
      have hstep := crcN_take (~~~ s) b i (by omega)
      obtain ⟨c, hc⟩ : ∃ c, c = crcN (~~~ s) (b.take i) := ⟨_, rfl⟩
      rw [← hc, ← hxe] at hstep
      rw [← hxe] at hx
      rw [← hc]
      have hts := tab_step c x
      have hx8 := x.toNat_lt
      obtain ⟨u, hu⟩ : ∃ u, u = wn c % 256 := ⟨_, rfl⟩
      have hu8 : u < 2 ^ 8 := by omega
      have e1 : IntKind.u8.wrap ((wn c : Nat) : Int) = (u : Nat) := by rw [wrapu8, hu]
      rw [← hu] at hts
      have hj8 := Nat.xor_lt_two_pow hu8 hx8
      have e2 : bitI .xor .u8 (u : Int) (x.toNat : Int) = ((u ^^^ x.toNat : Nat) : Int) := bitI_xor rfl hu8 hx8
      obtain ⟨j, hj⟩ : ∃ j, j = u ^^^ x.toNat := ⟨_, rfl⟩
      rw [← hj] at e2 hts hj8
      have e3 : ((wn c : Nat) : Int).fdiv 256 = (wn (c >>> 8) : Nat) := wx_shr c 8
      have e4 : bitI .xor .u32 (tabC j : Int) (wn (c >>> 8) : Nat) = (wn (stepC c x) : Nat) := by
        rw [hts]; exact bitI_xor rfl (hz j) (wn_lt _)
      simp [hx, e1, e2, e3, e4, IntKind.bits]
      repeat (refine ⟨by omega, ?_⟩)
      exact ⟨⟨i + 1, by omega⟩, by simp; omega, cut_w (by simp [w1, hstep])⟩
    · have : i = b.length := by omega
      subst this
      simp [wx_not32, List.take_of_length_le]
      exact fin_W (by simp [crcF])
theorem fCrcSum_spec (l : List (Md × List UInt8)) (md : Md) (hl : l.length < 2 ^ 62) (hb : ∀ x ∈ l, x.2.length < 2 ^ 62) : FSpec Try.prog 69 [.list 1 md (l.map lsV)] [] (.int .u32 (wn (crcF 0#32 (allB l)) : Nat)) [] := by
  refine FSpec.of_W fCrcSum_low (by simp) ?_
  simp only [initEnv]
  simp
  refine W_loop (X := { i : Nat // i ≤ l.length }) (fun i => [(3, .int .u32 (wn (crcF 0#32 (allB (l.take i.1))) : Nat)), (6, .list 1 md (l.map lsV)), (7, .int .i64 l.length), (8, .int .i64 i.1)]) (fun _ => []) (fun i => l.length - i.1) ⟨0, by omega⟩ retPost_le ?_ ?_
  · have e0 : wn (crcF 0#32 []) = 0 := by decide
    exact cut_w (by simp [allB, e0])
  · rintro ⟨i, hi⟩
    simp only
    simp
    refine WC_dec (fun h => ?_) (fun h => ?_)
    · have w1 : IntKind.i64.wrap ((i : Int) + 1) = (i : Int) + 1 := wrap64s (by omega) (by omega)
      have hx : l[i]? = some l[i] := List.getElem?_eq_getElem (by omega)
      have hat := allB_take l i (by omega)
      have hxl := hb l[i] (List.getElem_mem (by omega))
      obtain ⟨x, hxe⟩ : ∃ x, x = l[i] := ⟨_, rfl⟩
      rw [← hxe] at hx hat hxl
      have hU := fCrcUpdate_spec (crcF 0#32 (allB (l.take i))) x.2 x.1 hxl
      rw [crcF_append, ← hat] at hU
      simp [hx, lsV]
      refine ⟨by omega, ?_⟩
      refine WO_callP [] rfl rfl hU (by simp) (by simp) ?_
      simp
      exact ⟨⟨i + 1, by omega⟩, by simp; omega, cut_w (by simp [w1, lsV])⟩
    · have : i = l.length := by omega
      subst this
      simp [List.take_of_length_le]
      exact fin_W (by simp)
end Go.Proofs.Ytjehncilahjmdaa
