/-
  Digests of sixty-four bits a word: the statement of parts.
-/
import Derived.Test.YtfnpgagkdcjjoaacG5
set_option linter.unusedSimpArgs false
set_option linter.unusedVariables false
set_option linter.unusedSectionVars false
namespace Go.Proofs.Ytfnpgagkdcjjoaa
open Go Go.Fw
attribute [local simp] bv cleanL_bv toBytes_bv ltL_bv atF_drop WS_at_bytes W_nil W_skip W_seq W_reg W_draw W_drawP W_kill W_keep W_block W_blk W_exit W_ret WX_blk WX_c WX_lp WX_li W_li W_condT W_condF W_cond WC_true WC_false
  WR_nil WR_cons WR_o1 WR_o2 o1_chk o2_chk WR_grd WG_tt WG_ff WG_tf WG_ft WG_none WS_some WS_ok1 WSr_no WSr_some WSr_ok1 WSr_at_bytes WH_some WHA_some chkF_cons chkF_nil chkE_some chkE_ok1 chkE_at evF WO_mv WO_pick WO_bin WO_isNil WO_eqA WO_un WO_convI WO_toStr WO_ofStr WO_build WO_buildF WO_load WO_nilCheck WO_fieldAddr WO_field WO_idxA WO_idxS
  WO_ixA WO_slS WO_slA WO_len WO_lenK WO_appF WO_extract WO_s2a WO_iface WO_min WO_max WO_alloc WO_box WO_buildO WO_store WO_appO WO_copy WO_makeS WO_allocA WO_makeA WO_cvt cvtF_slice WO_look lookF_map alAF mkAF WO_func bind1_v bind2_v bindH_v bindH2_v bindS_v okO_v pickO_t pickO_f
  Env.keep Env.get Env.set Env.del Env.dels Env.setO Env.opd Env.opds Env.opdO Env.parts intF aggF fillA splice cleanL AV.clean bndF fldF_one fldF_many toStrF boxF buildOF
  loadF_rptr loadF_rptrN atF_zero atF_succ blk_cons_zero blk_cons_succ loadF_p loadF_pN atB_some atBN_some retPost resL one
  okc_bool cells_bool notStr_bool okc_int cells_int notStr_int okc_str cells_str notStr_str okc_nil cells_nil notStr_nil okc_ptr cells_ptr notStr_ptr okc_rptr cells_rptr notStr_rptr okc_slice cells_slice notStr_slice 
  okc_list cells_list notStr_list okc_func cells_func notStr_func okc_nilFunc cells_nilFunc notStr_nilFunc okc_iface cells_iface notStr_iface okc_nilIface cells_nilIface notStr_nilIface okc_agg cells_agg notStr_agg 
  okc_tuple cells_tuple notStr_tuple lenF_slice lenF_list lenF_str faF_ptr faF_rptr idxSF_slice idxSF_list idxAF_ptr idxAF_rptr ixAF_many ixAF_one convF_int unF_neg unF_xor unF_not nilF_0nil nilF_0ptr nilF_0rptr nilF_1 
  nilF_2nil nilF_2f nilF_3nil nilF_3f binF_int binF_beq binF_bne binF_sadd binF_seq binF_sne sliceCells_list sliceCells_str sliceCells_slice cutC_some szAV_list szAV_str szAV_slice oneSl_list oneSl_slice slSF_sliceS 
  slSF_sliceN slSF_list slAF_rptr slAF_ptr appFF_list appOF_list appOF_sliceN appOF_sliceS storeF_ptr copyF_slice extF_tuple s2aF_slice s2aF_list nchkF_ptr nchkF_rptr nchkF_f mmF_int ofStrF_str mkSF_int eqAF_agg
attribute [local irreducible] W WX WR WO WS WSr WH WHA WG WC FSpec
attribute [local simp] lendAll
attribute [local congr] W_cg WR_cg WO_cg WS_cg WSr_cg WH_cg WHA_cg WG_cg WC_cg WX_cg
attribute [local simp] Env.has AV.wkr wkrL AV.wkr_refl wkrL_refl AV.ltI ltL leHW hasW Env.lt AV.ids idsL AV.sub subL AV.ren AV.frz frzS frzP frzE frzL Heap.frz Blk.frz Blk.ren renL rnS rnP hasR leR idsL_bv subL_bv
attribute [local simp] cleanL_take cleanL_drop ltL_take ltL_drop idsL_take idsL_drop subL_take subL_drop cleanL_append ltL_append idsL_append subL_append
attribute [local simp] renE mvN mvH
attribute [local simp] fwd backH putL bwd
attribute [local simp] u8i u8e List.idxOf_cons
attribute [local simp] hasRW leRW
attribute [local simp] WS_at_map WSr_at_map WS_at_arr WSr_at_arr loadWP splice_full Int.natCast_inj arr_set arr_take arr_zero64 upd_fill fill_zero
theorem fGWrite_own (st pre b : List UInt8) (n : Nat) (hl : b.length < 2 ^ 46) (hn : n + b.length < 2 ^ 47) : FSpec Try.prog 18 [.ptr 0 0, .slice 1 2 0 b.length none] [hsh F64 .u64 57 1 st pre n, dat 64 5 st pre, some ⟨b.map bv, 5, false⟩] (.tuple [])
    [hsh F64 .u64 57 3 (st ++ b) (pre2 64 st b) (n + b.length), none, some ⟨b.map bv, 5, false⟩, dat 64 5 (st ++ b) (pre2 64 st b)] := by
  have hr := rst_len (m := 64) st
  have hap := hst_append F64 st b (by decide)
  have hp2 := pre2_rst (m := 64) (by decide) st b
  have hpl := pre2_len (m := 64) st b
  obtain ⟨l, hlq⟩ : ∃ l, l = rst 64 st ++ b := ⟨_, rfl⟩
  have hll : l.length = (rst 64 st).length + b.length := by rw [hlq]; simp
  refine FSpec.of_W fGWrite_low (by simp) ?_
  simp only [initEnv]
  simp [hsh, dat, hC, List.take_of_length_le]
  have en : IntKind.u64.wrap ((n : Int) + IntKind.u64.wrap (b.length : Int)) = ((n + b.length : Nat) : Int) := by
    rw [wrapu64, Nat.mod_eq_of_lt (by omega), ← Int.natCast_add, wrapu64, Nat.mod_eq_of_lt (by omega)]
  obtain ⟨N, hN⟩ : ∃ N, N = n + b.length := ⟨_, rfl⟩
  rw [← hN] at en
  refine ⟨by omega, ?_⟩
  refine W_loop (X := { k : Nat // 128 * k ≤ l.length }) (fun i => [(0, .ptr 0 0)]) (fun i => [some ⟨hC .u64 (runB F64 i.1 (hst F64 st) l) 3 (128 * i.1) (l.length - 128 * i.1) N, 57, true⟩, none, some ⟨b.map bv, 5, false⟩, some ⟨l.map bv, 5, false⟩]) (fun i => l.length - 128 * i.1) ⟨0, by omega⟩ retPost_le ?_ ?_
  · exact cut_w (by simp [hC, hlq, en, runB])
  rintro ⟨k, hk⟩
  simp only
  simp [hC]
  refine WC_dec (fun h => ?_) (fun h => ?_)
  · have h64 : 128 ≤ l.length - 128 * k := by omega
    have hs := fGStep_own (runB F64 k (hst F64 st) l) l (128 * k) (128 * k) (l.length - 128 * k) N (by omega)
    have hk2 : comp F64 (runB F64 k (hst F64 st) l) ((l.drop (128 * k)).take 128) = runB F64 (k + 1) (hst F64 st) l := (runB_succ F64 k (hst F64 st) l).symm
    rw [hk2] at hs
    simp [h64]
    refine ⟨h, ?_⟩
    refine WO_callF [0, 3] rfl rfl hs (by simp) (by simp [hC]) (by simp) ?_
    simp [hC, h64]
    refine ⟨by omega, ?_⟩
    refine ⟨⟨k + 1, by omega⟩, by simp; omega, ?_⟩
    refine cut_rw [0, 1, 2, 3] (by simp) rfl (by simp) ?_
    simp
    omega
  · have hkq : k = l.length / 128 := by omega
    rw [← hlq, show 2 * 64 = 128 from rfl, ← hkq] at hap hpl
    rw [← hlq] at hp2
    have hrl : (rst 64 (st ++ b)).length = l.length - 128 * k := by rw [← hap.2]; simp
    have hd : l.map bv = (pre2 64 st b).map bv ++ (rst 64 (st ++ b)).map bv := by rw [← hp2]; simp
    simp
    refine fin_W ?_
    simp [hap.1, hpl, hrl, hd, hN]
theorem hasK64 {l : List UInt8} (h : l.length = 64) : hasK [.u8, .u8, .u8, .u8, .u8, .u8, .u8, .u8, .u8, .u8, .u8, .u8, .u8, .u8, .u8, .u8, .u8, .u8, .u8, .u8, .u8, .u8, .u8, .u8, .u8, .u8, .u8, .u8, .u8, .u8, .u8, .u8, .u8, .u8, .u8, .u8, .u8, .u8, .u8, .u8, .u8, .u8, .u8, .u8, .u8, .u8, .u8, .u8, .u8, .u8, .u8, .u8, .u8, .u8, .u8, .u8, .u8, .u8, .u8, .u8, .u8, .u8, .u8, .u8] (l.map bv) = true := hasK_bytes l h
theorem hasK64a (g : Nat → Nat) : hasK [.u8, .u8, .u8, .u8, .u8, .u8, .u8, .u8, .u8, .u8, .u8, .u8, .u8, .u8, .u8, .u8, .u8, .u8, .u8, .u8, .u8, .u8, .u8, .u8, .u8, .u8, .u8, .u8, .u8, .u8, .u8, .u8, .u8, .u8, .u8, .u8, .u8, .u8, .u8, .u8, .u8, .u8, .u8, .u8, .u8, .u8, .u8, .u8, .u8, .u8, .u8, .u8, .u8, .u8, .u8, .u8, .u8, .u8, .u8, .u8, .u8, .u8, .u8, .u8] (arr .u8 64 g) = true := hasK_arr .u8 64 g
theorem xor255 (x : UInt8) : bitI .xor .u8 (x.toNat : Nat) 255 = ((x.toNat ^^^ 255 : Nat) : Int) := bitI_xor (k := .u8) rfl (a := x.toNat) (b := 255) x.toNat_lt (by decide)
theorem bv_set (l : List UInt8) (i : Nat) (y : UInt8) : (l.map bv).set i (.int .u8 ((y.toNat ^^^ 255 : Nat) : Int)) = (l.set i (y ^^^ 255)).map bv := by
  rw [List.map_set, bv, UInt8.toNat_xor]; rfl
/-- The hash's blocks, with all bytes so far, and one's own. -/
theorem fLParts_spec (l : List (Md × List UInt8)) (md : Md) (h0 : ∀ x ∈ l, x.1.bw = false) : FSpec Try.prog 6 [.list 1 md (l.map lsV)] [] (.bool true) [] := by
  refine FSpec.of_W fLParts_low (by simp) ?_
  simp only [initEnv]
  simp
  refine WO_callP [] rfl rfl fLives4_spec (by simp) (by simp) ?_
  by_cases hl : 20 < (l.length : Int)
  · simp [hl]
    refine WO_callP [] rfl rfl fLives4_spec (by simp) (by simp) ?_
    simp
    exact fin_W (by simp)
  simp [hl]
  refine WO_call rfl fGNew_spec (by simp) ?_
  simp [hsh, dat, hC]
  refine W_loop (X := { x : Nat × List UInt8 // x.1 ≤ l.length ∧ (allB (l.take x.1)).length ≤ 300 * x.1 }) (fun x => [(0, .list 1 md (l.map lsV)), (3, .slice 1 2 0 (allB (l.take x.1.1)).length none), (4, .ptr 0 0), (19, .list 1 md (l.map lsV)), (20, .int .i64 l.length), (21, .int .i64 x.1.1)])
    (fun x => [hsh F64 .u64 57 1 (allB (l.take x.1.1)) x.1.2 (allB (l.take x.1.1)).length, dat 64 5 (allB (l.take x.1.1)) x.1.2, some ⟨(allB (l.take x.1.1)).map bv, 5, false⟩]) (fun x => l.length - x.1.1) ⟨(0, []), by simp [allB]⟩ retPost_le ?_ ?_
  · refine cut_trans (cut_ghost 3 1 5 (by simp) rfl rfl) (cut_w ?_)
    simp [hsh, dat, hC, allB]
  rintro ⟨⟨i, pre⟩, hi, hi3⟩
  simp only at hi hi3 ⊢
  simp
  refine WC_dec (fun h => ?_) (fun h => ?_)
  · have hil : i < l.length := by omega
    have hc : l[i]? = some l[i] := by simp
    have hbw := h0 l[i] (by simp)
    have ht := allB_take l i hil
    simp [hc, lsV]
    refine ⟨hil, ?_⟩
    refine WC_dec (fun h3 => ?_) (fun h3 => ?_)
    · simp
      exact fin_W (by simp)
    have hb3 : l[i].2.length ≤ 300 := by omega
    have hlen : (allB (l.take (i + 1))).length = (allB (l.take i)).length + l[i].2.length := by rw [ht]; simp
    have hw := fGWrite_own (allB (l.take i)) pre l[i].2 (allB (l.take i)).length (by omega) (by omega)
    rw [← ht, ← hlen] at hw
    obtain ⟨b, hb⟩ : ∃ b, b = l[i].2 := ⟨_, rfl⟩
    rw [← hb] at hw ht hlen hb3 ⊢
    simp [hsh, dat, hC, List.take_of_length_le, hbw]
    simp only [hsh, dat, hC] at hw
    refine ⟨by omega, by omega, ?_⟩
    refine WO_callF [0, 1, 4] rfl rfl hw (by simp) (by simp) (by simp) ?_
    simp
    obtain ⟨p2, hp2⟩ : ∃ p2, p2 = pre2 64 (allB (l.take i)) b := ⟨_, rfl⟩
    rw [← hp2]
    refine W_loop (X := { x : Nat × List UInt8 // x.1 ≤ b.length ∧ x.2.length = b.length }) (fun x => [(0, .list 1 md (l.map lsV)), (3, .slice 1 2 0 (allB (l.take (i + 1))).length none), (4, .ptr 0 0), (7, .slice 1 3 0 b.length none), (19, .list 1 md (l.map lsV)), (20, .int .i64 l.length), (21, .int .i64 i), (38, .int .i64 b.length), (39, .int .i64 x.1.1)])
      (fun x => [hsh F64 .u64 57 1 (allB (l.take (i + 1))) p2 (allB (l.take (i + 1))).length, dat 64 5 (allB (l.take (i + 1))) p2, some ⟨(allB (l.take (i + 1))).map bv, 5, false⟩, some ⟨x.1.2.map bv, 5, false⟩]) (fun x => b.length - x.1.1) ⟨(0, b), by simp⟩ retPost_le ?_ ?_
    · refine cut_rw [0, 5, 3, 4] (by simp) rfl ?_ ?_
      · simp [hlen]
      · simp [hsh, dat, hC, ht]
    rintro ⟨⟨j, c⟩, hj, hcl⟩
    simp only at hj hcl ⊢
    simp
    refine WC_dec (fun hjb => ?_) (fun hjb => ?_)
    · have hjc : j < c.length := by omega
      have hcj : c[j]? = some c[j] := by simp
      have hx := xor255 c[j]
      have hbs := bv_set c j c[j]
      simp [hcj, hcl, hx, show j < b.length by omega]
      have hbl : ltL 4 ((c.map bv).set j (.int .u8 ((c[j].toNat ^^^ 255 : Nat) : Int))) = true := by rw [hbs]; exact ltL_bv _ _
      rw [hbs]
      refine ⟨by omega, ⟨(j + 1, c.set j (c[j] ^^^ 255)), by simp; omega⟩, by simp; omega, ?_⟩
      exact cut_w (by simp [hsh, dat, hC, hbl, wrap64s (n := (j : Int) + 1) (by omega) (by omega)])
    have hjb : j = b.length := by omega
    subst hjb
    simp [hsh, dat, hC]
    have hs := fGSum_spec (allB (l.take (i + 1))) p2 (by omega)
    simp only [hsh, dat, hC] at hs
    refine WO_callF [0, 1] rfl rfl hs (by simp) (by simp) (by simp) ?_
    simp
    have ho := fGOf_spec [(⟨false, false, true⟩, allB (l.take (i + 1)))] ⟨false, true, false⟩ (by simp [allB]; simp [allB] at hi3 hlen; omega) (by simp)
    rw [show allB [(⟨false, false, true⟩, allB (l.take (i + 1)))] = allB (l.take (i + 1)) by simp [allB]] at ho
    refine WO_callP [2] (as' := [.list 1 ⟨false, true, false⟩ ([(⟨false, false, true⟩, allB (l.take (i + 1)))].map lsV)]) rfl (by simp [lsV, List.take_of_length_le]) ho (by simp [lsV]) (by simp) ?_
    simp [hasK64 (dgst_len F64 _)]
    refine ⟨⟨(i + 1, p2), by simp; omega⟩, by simp; omega, ?_⟩
    exact cut_w (by simp [wrap64s (n := (i : Int) + 1) (by omega) (by omega)])
  · have : i = l.length := by omega
    subst this
    have hs := fGSum_spec (allB l) pre (by simp at hi3; omega)
    simp only [hsh, dat, hC] at hs
    have ho := fGOf_spec [(⟨false, false, true⟩, allB l)] ⟨false, true, false⟩ (by simp [allB]; simp [allB] at hi3; omega) (by simp)
    rw [show allB [(⟨false, false, true⟩, allB l)] = allB l by simp [allB]] at ho
    have hol := fGOf_spec l md (by simp at hi3; omega) (by omega)
    have hwn := fGWrite_nil (allB l) ⟨false, false, true⟩
    simp [hsh, dat, hC]
    refine WO_callP [2] (as' := [.nil, .list 1 ⟨false, false, true⟩ ((allB l).map bv)]) rfl (by simp [List.take_of_length_le]) hwn (by simp) (by simp) ?_
    simp
    refine WO_callF [0, 1] rfl rfl hs (by simp) (by simp) (by simp) ?_
    simp
    refine WO_callP [2] (as' := [.list 1 ⟨false, true, false⟩ ([(⟨false, false, true⟩, allB l)].map lsV)]) rfl (by simp [lsV, List.take_of_length_le]) ho (by simp [lsV]) (by simp) ?_
    simp [hasK64 (dgst_len F64 _)]
    refine WO_callP [] rfl rfl hol (by simp) (by simp) ?_
    simp
    refine WO_callF [0, 1] rfl rfl hs (by simp) (by simp) (by simp) ?_
    simp [hasK64 (dgst_len F64 _)]
    refine WO_callP [] rfl rfl fGSum_nil (by simp) (by simp) ?_
    simp [hasK64a]
    exact fin_W (by simp)
theorem ls_flat : ∀ l : List { x : Md × List UInt8 // x.1.bw = false ∧ x.2.length < 2 ^ 47 }, l.flatMap (fun x => [lsV x.1]) = (l.map Subtype.val).map lsV
  | [] => rfl
  | x :: l => by
    rw [List.flatMap_cons, ls_flat l]
    rfl
theorem fLongsumParts_law : ∀ args, AllFit Try.prog 8 Try.f6.params.toList args → FSpec Try.prog 6 args [] (.bool true) [] := by
  intro args has
  rw [show Try.f6.params.toList = [34] from by rw [Try.params6]] at has
  obtain ⟨a, as1, rfl, h1, has⟩ := all_cons has
  cases all_nil has
  obtain ⟨nl, full, l, rfl, hl⟩ := arg_slice (fun x : { x : Md × List UInt8 // x.1.bw = false ∧ x.2.length < 2 ^ 47 } => [lsV x.1]) Try.underlying34 (fun y hy => by
    obtain ⟨z, rfl⟩ := fit_one (by rw [Try.underlying22]) hy
    obtain ⟨nl, full, b, rfl, hb⟩ := fit_bytes Try.underlying22 Try.underlying5 (by kernel_rfl) (by kernel_rfl) hy
    exact ⟨⟨(⟨nl, full, false⟩, b), rfl, hb⟩, rfl⟩) h1
  rw [show Try.prog.cellsOf 22 = 1 by kernel_rfl, ls_flat]
  exact fLParts_spec _ _ (fun x hx => by
    obtain ⟨y, _, rfl⟩ := List.mem_map.1 hx
    exact y.2.1)
end Go.Proofs.Ytfnpgagkdcjjoaa
