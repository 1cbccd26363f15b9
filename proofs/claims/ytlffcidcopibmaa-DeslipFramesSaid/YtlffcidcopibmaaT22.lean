/-
  deslip
-/
import Derived.Test.YtlffcidcopibmaaT21
set_option linter.unusedSimpArgs false
set_option linter.unusedVariables false
set_option linter.unusedSectionVars false
namespace Go.Proofs.Ytlffcidcopibmaa
open Go Go.Fw
attribute [local simp] bv cleanL_bv toBytes_bv ltL_bv atF_drop WS_at_bytes W_nil W_skip W_seq W_reg W_draw W_kill W_keep W_block W_blk W_exit W_ret WX_blk WX_c WX_lp WX_li W_li W_condT W_condF W_cond WC_true WC_false
  WR_nil WR_cons WR_o1 WR_o2 o1_chk o2_chk WR_grd WG_tt WG_ff WG_tf WG_ft WG_none WS_some WS_ok1 WSr_no WSr_some WSr_ok1 WSr_at_bytes WH_some chkF_cons chkF_nil chkE_some chkE_ok1 chkE_at evF WO_mv WO_pick WO_bin WO_isNil WO_eqA WO_un WO_convI WO_toStr WO_ofStr WO_build WO_buildF WO_load WO_nilCheck WO_fieldAddr WO_field WO_idxA WO_idxS
  WO_ixA WO_slS WO_slA WO_len WO_lenK WO_appF WO_extract WO_s2a WO_iface WO_min WO_max WO_alloc WO_box WO_buildO WO_store WO_appO WO_copy WO_makeS WO_func bind1_v bind2_v bindH_v bindH2_v bindS_v okO_v pickO_t pickO_f
  Env.keep Env.get Env.set Env.del Env.dels Env.setO Env.opd Env.opds Env.opdO Env.parts intF aggF fillA splice cleanL AV.clean bndF fldF_one fldF_many toStrF boxF buildOF
  loadF_rptr loadF_rptrN atF_zero atF_succ blk_cons_zero blk_cons_succ loadF_p loadF_pN atB_some atBN_some retPost resL one
  okc_bool cells_bool notStr_bool okc_int cells_int notStr_int okc_str cells_str notStr_str okc_nil cells_nil notStr_nil okc_ptr cells_ptr notStr_ptr okc_rptr cells_rptr notStr_rptr okc_slice cells_slice notStr_slice 
  okc_list cells_list notStr_list okc_func cells_func notStr_func okc_nilFunc cells_nilFunc notStr_nilFunc okc_iface cells_iface notStr_iface okc_nilIface cells_nilIface notStr_nilIface okc_agg cells_agg notStr_agg 
  okc_tuple cells_tuple notStr_tuple lenF_slice lenF_list lenF_str faF_ptr faF_rptr idxSF_slice idxSF_list idxAF_ptr idxAF_rptr ixAF_many ixAF_one convF_int unF_neg unF_xor unF_not nilF_0nil nilF_0ptr nilF_0rptr nilF_1 
  nilF_2nil nilF_2f nilF_3nil nilF_3f binF_int binF_beq binF_bne binF_sadd binF_seq binF_sne sliceCells_list sliceCells_str sliceCells_slice cutC_some szAV_list szAV_str szAV_slice oneSl_list oneSl_slice slSF_sliceS 
  slSF_sliceN slSF_list slAF_rptr slAF_ptr appFF_list appOF_list appOF_sliceN appOF_sliceS storeF_ptr copyF_slice extF_tuple s2aF_slice s2aF_list nchkF_ptr nchkF_rptr nchkF_f mmF_int ofStrF_str mkSF_int eqAF_agg
attribute [local irreducible] W WX WR WO WS WSr WH WG WC FSpec
attribute [local simp] lendAll
attribute [local congr] W_cg WR_cg WO_cg WS_cg WSr_cg WH_cg WG_cg WC_cg WX_cg
attribute [local simp] Env.has AV.wkr wkrL AV.wkr_refl wkrL_refl AV.ltI ltL leHW hasW Env.lt AV.ids idsL AV.sub subL AV.ren AV.frz frzS frzP frzE frzL Heap.frz Blk.frz Blk.ren renL rnS rnP hasR leR idsL_bv subL_bv
attribute [local simp] cleanL_take cleanL_drop ltL_take ltL_drop idsL_take idsL_drop subL_take subL_drop cleanL_append ltL_append idsL_append subL_append
attribute [local simp] renE mvN mvH
attribute [local simp] fwd backH putL bwd
attribute [local simp] u8i u8e List.idxOf_cons
attribute [local simp] hasRW leRW
/-- Parts: cut behind each 192. -/
def partsF : List UInt8 → List UInt8 → List (List UInt8)
  | cur, [] => [cur]
  | cur, c :: b => if c = 192 then (cur ++ [c]) :: partsF [] b else partsF (cur ++ [c]) b
def bls (l : List (List UInt8)) : List AV := l.map fun b => .list 1 ⟨false, false, false⟩ (b.map bv)
@[simp] theorem bls_nil : bls [] = [] := rfl
@[simp] theorem bls_cons (x : List UInt8) (l : List (List UInt8)) : bls (x :: l) = .list 1 ⟨false, false, false⟩ (x.map bv) :: bls l := rfl
@[simp] theorem bls_length (l : List (List UInt8)) : (bls l).length = l.length := by simp [bls]
@[simp] theorem bls_drop (l : List (List UInt8)) (i : Nat) : (bls l).drop i = bls (l.drop i) := by simp [bls, List.map_drop]
theorem bls_append (a b : List (List UInt8)) : bls (a ++ b) = bls a ++ bls b := by simp [bls]
@[simp] theorem ltL_bls (n : Nat) (l : List (List UInt8)) : ltL n (bls l) = true := ltL_map _ fun x => by simp
@[simp] theorem ids_bls (q : Nat → Bool) (l : List (List UInt8)) : idsL q (bls l) = true := idsL_map _ fun x => by simp
@[simp] theorem sub_bls (s : Nat → Nat → Nat → Nat → Option Nat → AV) (p : Nat → Nat → AV) (l : List (List UInt8)) : subL s p (bls l) = bls l := subL_map _ fun x => by simp
@[simp] theorem cleanL_bls (l : List (List UInt8)) : cleanL (bls l) = true := cleanL_map _ fun x => by simp
theorem partsF_len : ∀ (b cur : List UInt8), (partsF cur b).length ≤ b.length + 1 ∧ ∀ p ∈ partsF cur b, p.length ≤ cur.length + b.length
  | [], cur => by simp [partsF]
  | c :: b, cur => by
    rw [partsF]
    split
    · obtain ⟨h1, h2⟩ := partsF_len b []
      refine ⟨by simp; omega, fun p hp => ?_⟩
      rcases List.mem_cons.1 hp with rfl | hp
      · simp
      · have := h2 p hp; simp at this ⊢; omega
    · obtain ⟨h1, h2⟩ := partsF_len b (cur ++ [c])
      exact ⟨by simp; omega, fun p hp => by have := h2 p hp; simp at this ⊢; omega⟩
theorem fParts_spec (b : List UInt8) (md : Md) (hm : md.bw = false) (hb : b.length < 2 ^ 38) : FSpec Try.prog 36 [.list 1 md (b.map bv)] [] (.list 1 ⟨false, false, false⟩ (bls (partsF [] b))) [] := by
  refine FSpec.of_W fParts_low (by simp) ?_
  simp only [initEnv]
  simp
  refine W_loop (X := { s : Nat × Nat × List (List UInt8) // s.1 ≤ s.2.1 ∧ s.2.1 ≤ b.length ∧ s.2.2.length ≤ s.2.1 ∧ s.2.2 ++ partsF ((b.take s.2.1).drop s.1) (b.drop s.2.1) = partsF [] b })
    (fun s => [(0, .list 1 md (b.map bv)), (3, .slice 1 0 0 s.1.2.2.length none), (4, .int .i64 s.1.1), (5, .int .i64 s.1.2.1)]) (fun s => [some ⟨bls s.1.2.2, 22, false⟩]) (fun s => b.length - s.1.2.1) ⟨(0, 0, []), by simp, by simp, by simp, by simp⟩ retPost_le ?_ ?_
  · refine cut_trans (cut_ghost 3 1 22 (by simp) rfl rfl) (cut_w ?_)
    simp
  · rintro ⟨⟨p, i, out⟩, hp, hi, ho, he⟩
    simp only at hp hi ho he ⊢
    simp
    refine WC_dec (fun hlt => ?_) (fun hlt => ?_)
    · obtain ⟨c, r, hd⟩ : ∃ c r, b.drop i = c :: r := ⟨b[i], b.drop (i+1), by simp⟩
      have hd2 : b.drop (i + 1) = r := by rw [← List.drop_drop, hd]; rfl
      have hc : b[i]? = some c := by rw [← Nat.add_zero i, ← List.getElem?_drop, hd]; rfl
      have ht : (b.take (i + 1)).drop p = (b.take i).drop p ++ [c] := by
        rw [List.take_add_one, hc, List.drop_append_of_le_length (by simp; omega)]; rfl
      rw [hd, partsF] at he
      by_cases h1 : c = 192
      · subst h1
        simp [hc]
        rw [wrap64 (by omega) (by omega)]
        have hm1 : ((i : Int) + 1).toNat = i + 1 := by omega
        simp [hm, hm1, List.take_of_length_le]
        repeat (refine ⟨by omega, ?_⟩)
        rw [if_pos rfl, ← ht, ← hd2] at he
        refine ⟨⟨(i + 1, i + 1, out ++ [(b.take (i + 1)).drop p]), by simp, by simp; omega, by simp; omega, ?_⟩, by simp; omega, ?_⟩
        · simp only [List.append_assoc, List.singleton_append]
          rw [show List.drop (i + 1) (List.take (i + 1) b) = [] from List.drop_of_length_le (by simp; omega)]
          exact he
        · refine cut_rw [1] (by simp) rfl (by simp) ?_
          simp [bls_append]
          refine wkrL_app _ ?_
          simp [List.drop_take]
      · simp [hc, h1]
        rw [wrap64 (by omega) (by omega)]
        rw [if_neg h1, ← ht, ← hd2] at he
        refine ⟨hlt, ⟨(p, i + 1, out), by simp; omega, by simp; omega, by simp; omega, he⟩, by simp; omega, ?_⟩
        refine cut_w ?_
        simp
    · have hq : i = b.length := by omega
      subst hq
      rw [List.drop_length, List.take_length, partsF] at he
      simp [hm, List.take_of_length_le]
      repeat (refine ⟨by omega, ?_⟩)
      refine fin_F 1 rfl (fin_W ?_)
      simp [List.take_of_length_le, ← he, bls_append]
      exact wkrL_app _ (by simp)
/-- part: what each byte of a part brings. -/
def zer (n : Nat) : List Ev := List.replicate n ⟨0, [], 0⟩
def partG (most : Nat) (text : List UInt8) : List UInt8 → List Ev
  | [] => []
  | c :: r => if c = 192 then (if 0 < text.length then ⟨1, text, 0⟩ else ⟨0, [], 0⟩) :: zer r.length
    else if c = 219 then (match r with
      | [] => [⟨0, [], 0⟩]
      | d :: r => if ¬ d = 220 ∧ ¬ d = 221 then ⟨0, [], 0⟩ :: ⟨2, [], 7⟩ :: zer r.length
        else if text.length = most then ⟨0, [], 0⟩ :: ⟨2, [], 17⟩ :: zer r.length
        else ⟨0, [], 0⟩ :: ⟨0, [], 0⟩ :: partG most (text ++ [if d = 220 then 192 else 219]) r)
    else if text.length = most then ⟨2, [], 17⟩ :: zer r.length else ⟨0, [], 0⟩ :: partG most (text ++ [c]) r
theorem zer_wk (n : Nat) : wkrL (List.replicate n [AV.int .i64 0, .list 1 ⟨true, true, false⟩ [], .int .i64 0]).flatten (evs (zer n)) := by
  induction n with
  | zero => rfl
  | succ n ih =>
    rw [zer, List.replicate_succ, List.replicate_succ, List.flatten_cons, evs_cons]
    exact wkrL_app2 (by simp [evs1]) ih
@[simp] theorem zer_length (n : Nat) : (zer n).length = n := by simp [zer]
theorem partG_len (most : Nat) : ∀ (text b : List UInt8), (partG most text b).length = b.length := by
  intro text b
  fun_induction partG most text b <;> simp_all
theorem zer_app (a b : Nat) : zer a ++ zer b = zer (a + b) := by simp [zer]
theorem zer_succ (i : Nat) (l : List Ev) : zer (i + 1) ++ l = zer i ++ ⟨0, [], 0⟩ :: l := by
  simp [zer, List.replicate_succ']
theorem zer_cons (i : Nat) : (⟨0, [], 0⟩ : Ev) :: zer i = zer (i + 1) := by simp [zer, List.replicate_succ]
theorem fPart_spec (b : List UInt8) (md : Md) (most : Nat) (hb : b.length < 2 ^ 38) : FSpec Try.prog 37 [.list 1 md (b.map bv), .int .i64 most] [] (.list 3 ⟨false, false, false⟩ (evs (partG most [] b))) [] := by
  refine FSpec.of_W fPart_low (by simp) ?_
  simp only [initEnv]
  simp
  refine ⟨by omega, ?_⟩
  refine W_loop (X := { s : Nat × List UInt8 // s.1 ≤ b.length ∧ s.2.length ≤ s.1 ∧ zer s.1 ++ partG most s.2 (b.drop s.1) = partG most [] b })
    (fun s => [(0, .list 1 md (b.map bv)), (1, .int .i64 most), (5, .slice 3 0 0 b.length (some b.length)), (6, .slice 1 1 0 s.1.2.length none), (7, .int .i64 s.1.1)]) (fun s => [some ⟨evs (zer b.length), 64, true⟩, some ⟨s.1.2.map bv, 5, false⟩]) (fun s => b.length - s.1.1) ⟨(0, []), by simp, by simp, by simp [zer]⟩ retPost_le ?_ ?_
  · refine cut_trans (cut_ghost 6 1 5 (by simp) rfl rfl) (cut_w ?_)
    simp [zer_wk]
  · rintro ⟨⟨i, text⟩, hi, ht, he⟩
    simp only at hi ht he ⊢
    have hG : (partG most [] b).length = b.length := partG_len _ _ _
    generalize partG most [] b = G at *
    have ret0 : G = zer b.length → fin 0 (.list 3 ⟨false, false, false⟩ (evs G)) [] (.slice 3 0 0 b.length (some b.length)) [some ⟨evs (zer b.length), 64, true⟩, some ⟨text.map bv, 5, false⟩] := fun q => by
      rw [q]
      exact fin_sl 0 rfl (by simp) (wkrL_refl _) (by simp)
    have retE : ∀ (j : Nat) (er : Int), j < b.length → G = zer j ++ ⟨2, [], er⟩ :: zer (b.length - j - 1) → fin 0 (.list 3 ⟨false, false, false⟩ (evs (G))) [] (.slice 3 0 0 b.length (some b.length))
        [some ⟨splice (evs (zer b.length)) (j * 3) [.int .i64 2, .list 1 ⟨true, true, false⟩ [], .int .i64 er], 64, true⟩, some ⟨text.map bv, 5, false⟩] := fun j er hj q => by
      rw [q, evs_put _ _ _ rfl (by simpa using hj)]
      have e1 : (zer b.length).take j = zer j := by simp [zer]; omega
      have e2 : (zer b.length).drop (j + 1) = zer (b.length - j - 1) := by simp [zer]; omega
      rw [e1, e2]
      refine fin_sl 0 rfl (by simp; omega) ?_ (by simp)
      rw [evs_append, evs_cons, List.append_assoc]
      exact wkrL_app _ (wkrL_app2 (by simp [evs1]) (wkrL_refl _))
    have retT : G = zer i ++ ⟨1, text, 0⟩ :: zer (b.length - i - 1) → i < b.length → fin 0 (.list 3 ⟨false, false, false⟩ (evs (G))) [] (.slice 3 0 0 b.length (some b.length))
        [some ⟨splice (evs (zer b.length)) (i * 3) [.int .i64 1, .slice 1 1 0 text.length none, .int .i64 0], 64, true⟩, some ⟨text.map bv, 5, false⟩] := fun q hj => by
      rw [q, evs_put _ _ _ rfl (by simpa using hj)]
      have e1 : (zer b.length).take i = zer i := by simp [zer]; omega
      have e2 : (zer b.length).drop (i + 1) = zer (b.length - i - 1) := by simp [zer]; omega
      rw [e1, e2]
      refine fin_F 1 rfl ?_
      simp [List.take_of_length_le]
      refine fin_sl 0 rfl (by simp; omega) ?_ (by simp)
      rw [evs_append, evs_cons]
      exact wkrL_app _ (wkrL_app2 (b := evs (zer (b.length - i - 1))) (a := [_, _, _]) (by simp [evs1]) (wkrL_refl _))
    simp
    refine WC_dec (fun hlt => ?_) (fun hlt => ?_)
    · obtain ⟨c, r, hd⟩ : ∃ c r, b.drop i = c :: r := ⟨b[i], b.drop (i+1), by simp⟩
      have hd2 : b.drop (i + 1) = r := by rw [← List.drop_drop, hd]; rfl
      have hc : b[i]? = some c := by rw [← Nat.add_zero i, ← List.getElem?_drop, hd]; rfl
      have hr : r.length = b.length - i - 1 := by have := congrArg List.length hd; simp at this; omega
      rw [hd] at he
      unfold partG at he
      by_cases h1 : c = 192
      · subst h1
        rw [if_pos rfl] at he
        by_cases h2 : 0 < text.length
        · simp [hc, h2]
          rw [if_pos h2, hr] at he
          repeat (refine ⟨by omega, ?_⟩)
          exact retT he.symm hlt
        · simp [hc, h2]
          rw [if_neg h2, hr] at he
          repeat (refine ⟨by omega, ?_⟩)
          refine ret0 ?_
          rw [← he, zer_cons, zer_app]; congr 1; omega
      rw [if_neg h1] at he
      by_cases h2 : c = 219
      · subst h2
        rw [if_pos rfl] at he
        rcases r with _ | ⟨d, r⟩
        · have hq : i + 1 = b.length := by simp at hr; omega
          simp [hc, show (i : Int) + 1 = b.length by omega]
          rw [wrap64 (by omega) (by omega)]
          simp [show (i : Int) + 1 = b.length by omega]
          repeat (refine ⟨by omega, ?_⟩)
          refine ret0 ?_
          rw [← he, ← hq]; simp only; rw [← zer_succ]; simp
        · simp only [List.length_cons] at hr
          have hd' : b[i + 1]? = some d := by rw [← List.getElem?_drop, hd]; rfl
          have hd3 : b.drop (i + 2) = r := by rw [← List.drop_drop, hd]; rfl
          have hq : ¬ (i : Int) + 1 = b.length := by omega
          have hm1 : ((i : Int) + 1).toNat = i + 1 := by omega
          simp only at he
          have nx : ∀ x : UInt8, zer i ++ (if text.length = most then ⟨0, [], 0⟩ :: ⟨2, [], 17⟩ :: zer r.length else ⟨0, [], 0⟩ :: ⟨0, [], 0⟩ :: partG most (text ++ [x]) r) = G → (if text.length = most then zer (i + 1) ++ ⟨2, [], 17⟩ :: zer (b.length - (i + 1) - 1) else zer (i + 2) ++ partG most (text ++ [x]) (b.drop (i + 2))) = G := by
            intro x hx
            rw [← hx, hd3, show b.length - (i + 1) - 1 = r.length by omega]
            split
            · rw [zer_succ]
            · rw [show i + 2 = i + 1 + 1 from rfl, zer_succ, zer_succ]
          have w1 : IntKind.i64.wrap ((i : Int) + 1) = (i : Int) + 1 := wrap64 (by omega) (by omega)
          have w2 : IntKind.i64.wrap ((i : Int) + 1 + 1) = (i : Int) + 2 := by rw [wrap64 (by omega) (by omega)]; omega
          by_cases h4 : d = 220
          · subst h4
            simp at he
            have he := nx 192 he
            by_cases h3 : text.length = most
            · rw [if_pos h3] at he
              simp [hc, w1, hq, hm1, hd', h3]
              repeat (refine ⟨by omega, ?_⟩)
              exact retE (i + 1) 17 (by omega) he.symm
            · rw [if_neg h3] at he
              have h3' : ¬ (text.length : Int) = most := by omega
              simp [hc, w1, w2, hq, hm1, hd', h3', List.take_of_length_le]
              repeat (refine ⟨by omega, ?_⟩)
              refine ⟨⟨(i + 2, text ++ [192]), by simp; omega, by simp; omega, he⟩, by simp; omega, ?_⟩
              refine cut_ren [0, 3] (by simp) rfl ?_ ?_
              · simp
              · simp
          · by_cases h5 : d = 221
            · subst h5
              simp at he
              have he := nx 219 he
              by_cases h3 : text.length = most
              · rw [if_pos h3] at he
                simp [hc, w1, hq, hm1, hd', h3]
                repeat (refine ⟨by omega, ?_⟩)
                exact retE (i + 1) 17 (by omega) he.symm
              · rw [if_neg h3] at he
                have h3' : ¬ (text.length : Int) = most := by omega
                simp [hc, w1, w2, hq, hm1, hd', h3', List.take_of_length_le]
                repeat (refine ⟨by omega, ?_⟩)
                refine ⟨⟨(i + 2, text ++ [219]), by simp; omega, by simp; omega, he⟩, by simp; omega, ?_⟩
                refine cut_ren [0, 3] (by simp) rfl ?_ ?_
                · simp
                · simp
            · simp [h4, h5] at he
              simp [hc, w1, hq, hm1, hd', h4, h5]
              repeat (refine ⟨by omega, ?_⟩)
              refine retE (i + 1) 7 (by omega) ?_
              rw [← he, zer_succ, show b.length - (i + 1) - 1 = r.length by omega]
      · rw [if_neg h2] at he
        by_cases h3 : text.length = most
        · rw [if_pos h3, hr] at he
          simp [hc, h1, h2, h3]
          repeat (refine ⟨by omega, ?_⟩)
          exact retE i 17 hlt he.symm
        · rw [if_neg h3] at he
          have h3' : ¬ (text.length : Int) = most := by omega
          simp [hc, h1, h2, h3', List.take_of_length_le]
          rw [wrap64 (by omega) (by omega)]
          repeat (refine ⟨by omega, ?_⟩)
          refine ⟨⟨(i + 1, text ++ [c]), by simp; omega, by simp; omega, ?_⟩, by simp; omega, ?_⟩
          · simp only [hd2]; rw [← he, zer_succ]
          · refine cut_ren [0, 3] (by simp) rfl ?_ ?_
            · simp
            · simp
    · rw [List.drop_of_length_le (by omega)] at he
      simp
      refine ret0 ?_
      have : i = b.length := by omega
      subst this
      rw [← he]; unfold partG; simp
end Go.Proofs.Ytlffcidcopibmaa
