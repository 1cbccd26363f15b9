/-
  The document's records.
-/
import Derived.Test.YtjehncilahjmdaadC3
set_option linter.unusedSimpArgs false
set_option linter.unnecessarySimpa false
set_option linter.unusedVariables false
set_option linter.unusedSectionVars false
namespace Go.Proofs.Ytjehncilahjmdaa
open Go Go.Fw
attribute [local simp] bv cleanL_bv toBytes_bv ltL_bv atF_drop WS_at_bytes W_nil W_skip W_seq W_reg W_draw W_drawP W_kill W_keep W_block W_blk W_exit W_ret WX_blk WX_c WX_lp WX_li W_li W_condT W_condF W_cond WC_true WC_false
  WR_nil WR_cons WR_o1 WR_o2 o1_chk o2_chk WR_grd WG_tt WG_ff WG_tf WG_ft WG_none WS_some WS_ok1 WSr_no WSr_some WSr_ok1 WSr_at_bytes WH_some WHA_some chkF_cons chkF_nil chkE_some chkE_ok1 chkE_at evF WO_mv WO_pick WO_bin WO_isNil WO_eqA WO_un WO_convI WO_toStr WO_ofStr WO_build WO_buildF WO_load WO_nilCheck WO_fieldAddr WO_field WO_idxA WO_idxS
  WO_ixA WO_slS WO_slA WO_len WO_lenK WO_appF WO_extract WO_s2a WO_iface WO_min WO_max WO_alloc WO_box WO_buildO WO_store WO_appO WO_copy WO_makeS WO_allocA WO_makeA WO_cvt cvtF_slice WO_look lookF_map alAF mkAF WO_func bind1_v bind2_v bindH_v bindH2_v bindS_v okO_v pickO_t pickO_f
  Env.keep Env.get Env.set Env.del Env.dels Env.setO Env.opd Env.opds Env.opdO Env.parts intF aggF fillA splice cleanL AV.clean bndF fldF_one fldF_many toStrF boxF buildOF
  loadF_rptr loadF_rptrN atF_zero atF_succ blk_cons_zero blk_cons_succ loadF_p loadF_pN atB_some atBN_some retPost resL one
  okc_bool cells_bool notStr_bool okc_int cells_int notStr_int okc_str cells_str notStr_str okc_nil cells_nil notStr_nil okc_ptr cells_ptr notStr_ptr okc_rptr cells_rptr notStr_rptr okc_slice cells_slice notStr_slice 
  okc_list cells_list notStr_list okc_func cells_func notStr_func okc_nilFunc cells_nilFunc notStr_nilFunc okc_iface cells_iface notStr_iface okc_nilIface cells_nilIface notStr_nilIface okc_agg cells_agg notStr_agg 
  okc_tuple cells_tuple notStr_tuple lenF_slice lenF_list lenF_str faF_ptr faF_rptr idxSF_slice idxSF_list idxAF_ptr idxAF_rptr ixAF_many ixAF_one convF_int unF_neg unF_xor unF_not nilF_0nil nilF_0ptr nilF_0rptr nilF_1 
  nilF_2nil nilF_2f nilF_3nil nilF_3f binF_int binF_beq binF_bne binF_sadd binF_seq binF_sne sliceCells_list sliceCells_str sliceCells_slice cutC_some szAV_list szAV_str szAV_slice oneSl_list oneSl_slice slSF_sliceS 
  slSF_sliceN slSF_list slAF_rptr slAF_ptr appFF_list appOF_list appOF_sliceN appOF_sliceS storeF_ptr copyF_slice extF_tuple s2aF_slice s2aF_list nchkF_ptr nchkF_rptr nchkF_f mmF_int ofStrF_str mkSF_int eqAF_agg
attribute [local irreducible] W WX WR WO WS WSr WH WHA WG WC FSpec
attribute [local simp] lendAll
attribute [local congr] W_cg WR_cg WO_cg WS_cg WSr_cg WH_cg WHA_cg WG_cg WC_cg WX_cg
attribute [local simp] Env.has AV.wkr wkrL AV.wkr_refl wkrL_refl AV.ltI ltL leHW hasW Env.lt AV.ids idsL AV.sub subL AV.ren AV.frz frzS frzP frzE frzL Heap.frz Blk.frz Blk.ren renL rnS rnP hasR leR idsL_bv subL_bv
attribute [local simp] cleanL_take cleanL_drop ltL_take ltL_drop idsL_take idsL_drop subL_take subL_drop cleanL_append ltL_append idsL_append subL_append
attribute [local simp] renE mvN mvH
attribute [local simp] fwd backH putL bwd
attribute [local simp] u8i u8e List.idxOf_cons
attribute [local simp] hasRW leRW
attribute [local simp] WS_at_map WSr_at_map WS_at_arr WSr_at_arr loadWP splice_full Int.natCast_inj
theorem fPRWord_spec (n : Nat) (hn : n < 2 ^ 32) : FSpec Try.prog 87 [.int .u32 (n : Nat)] [] (.list 1 ⟨false, false, false⟩ ((byL 4 n).map bv)) [] := by
  refine FSpec.of_W fPRWord_low (by simp) ?_
  simp only [initEnv]
  simp
  have hlb : ∀ k, (byL k n).length = k := by intro k; simp [byL]
  refine W_loop (X := { i : Nat // i ≤ 4 }) (fun i => [(0, .int .u32 (n / 256 ^ i.1 : Nat)), (3, .slice 1 0 0 i.1 none), (4, .int .i64 i.1)]) (fun i => [some ⟨(byL i.1 n).map bv, 5, false⟩]) (fun i => 4 - i.1) ⟨0, by simp⟩ retPost_le ?_ ?_
  · refine cut_trans (cut_ghost 3 1 5 (by simp) rfl rfl) (cut_w ?_)
    simp [byL]
  · rintro ⟨i, hi⟩
    simp only
    simp
    refine WC_dec (fun h => ?_) (fun h => ?_)
    · simp [hlb]
      refine ⟨by omega, ?_⟩
      have hq : (n : Int) / 256 ^ i = ((n / 256 ^ i : Nat) : Int) := by simp
      have hqn : n / 256 ^ (i + 1) = n / 256 ^ i / 256 := by rw [Nat.pow_succ, ← Nat.div_div_eq_div_mul]
      have hle : n / 256 ^ i ≤ n := Nat.div_le_self _ _
      have h1 : ((n / 256 ^ i : Nat) : Int).tdiv 256 = ((n / 256 ^ i / 256 : Nat) : Int) := rfl
      have h2 : ((n / 256 ^ i : Nat) : Int).tmod 256 = ((n / 256 ^ i % 256 : Nat) : Int) := rfl
      have h3 : IntKind.u8.wrap ((n / 256 ^ i % 256 : Nat) : Int) = ((UInt8.ofNat (n / 256 ^ i)).toNat : Int) := by
        rw [wrap8_u8, UInt8.toNat_ofNat', UInt8.toNat_ofNat']; simp
      rw [hq, h1, h2, h3]
      have h4 : IntKind.u32.wrap ((n / 256 ^ i % 256 : Nat) : Int) = ((n / 256 ^ i % 256 : Nat) : Int) := by rw [wrapu32, Nat.mod_eq_of_lt (by omega)]
      have h5 : IntKind.u32.wrap ((n / 256 ^ i / 256 : Nat) : Int) = ((n / 256 ^ i / 256 : Nat) : Int) := by rw [wrapu32, Nat.mod_eq_of_lt (by omega)]
      simp only [h3, h4, h5]
      refine ⟨⟨i + 1, by omega⟩, by simp; omega, ?_⟩
      refine cut_rw [1] (by simp) rfl ?_ ?_
      · have hqz : (n : Int) / 256 ^ (i + 1) = (n : Int) / 256 ^ i / 256 := by
          have h := congrArg (fun x : Nat => (x : Int)) hqn
          simpa using h
        simp [hqz, wrap64 (n := (i : Int) + 1) (by omega) (by omega)]
      · simp [byL_succ, List.take_of_length_le, hlb]
    · have : i = 4 := by omega
      subst this
      simp
      exact fin_sl 0 rfl (by simp [hlb]) (by simp) (by simp)
/-- A number's bytes, in memory of one's own. -/
theorem fPRWord_own (n : Nat) (hn : n < 2 ^ 32) : FSpec Try.prog 87 [.int .u32 (n : Nat)] [] (.slice 1 0 0 4 none) [some ⟨(byL 4 n).map bv, 5, false⟩] := by
  refine FSpec.of_W fPRWord_low (by simp) ?_
  simp only [initEnv]
  simp
  have hlb : ∀ k, (byL k n).length = k := by intro k; simp [byL]
  refine W_loop (X := { i : Nat // i ≤ 4 }) (fun i => [(0, .int .u32 (n / 256 ^ i.1 : Nat)), (3, .slice 1 0 0 i.1 none), (4, .int .i64 i.1)]) (fun i => [some ⟨(byL i.1 n).map bv, 5, false⟩]) (fun i => 4 - i.1) ⟨0, by simp⟩ retPost_le ?_ ?_
  · refine cut_trans (cut_ghost 3 1 5 (by simp) rfl rfl) (cut_w ?_)
    simp [byL]
  · rintro ⟨i, hi⟩
    simp only
    simp
    refine WC_dec (fun h => ?_) (fun h => ?_)
    · simp [hlb]
      refine ⟨by omega, ?_⟩
      have hq : (n : Int) / 256 ^ i = ((n / 256 ^ i : Nat) : Int) := by simp
      have hqn : n / 256 ^ (i + 1) = n / 256 ^ i / 256 := by rw [Nat.pow_succ, ← Nat.div_div_eq_div_mul]
      have hle : n / 256 ^ i ≤ n := Nat.div_le_self _ _
      have h1 : ((n / 256 ^ i : Nat) : Int).tdiv 256 = ((n / 256 ^ i / 256 : Nat) : Int) := rfl
      have h2 : ((n / 256 ^ i : Nat) : Int).tmod 256 = ((n / 256 ^ i % 256 : Nat) : Int) := rfl
      have h3 : IntKind.u8.wrap ((n / 256 ^ i % 256 : Nat) : Int) = ((UInt8.ofNat (n / 256 ^ i)).toNat : Int) := by
        rw [wrap8_u8, UInt8.toNat_ofNat', UInt8.toNat_ofNat']; simp
      rw [hq, h1, h2, h3]
      have h4 : IntKind.u32.wrap ((n / 256 ^ i % 256 : Nat) : Int) = ((n / 256 ^ i % 256 : Nat) : Int) := by rw [wrapu32, Nat.mod_eq_of_lt (by omega)]
      have h5 : IntKind.u32.wrap ((n / 256 ^ i / 256 : Nat) : Int) = ((n / 256 ^ i / 256 : Nat) : Int) := by rw [wrapu32, Nat.mod_eq_of_lt (by omega)]
      simp only [h3, h4, h5]
      refine ⟨⟨i + 1, by omega⟩, by simp; omega, ?_⟩
      refine cut_rw [1] (by simp) rfl ?_ ?_
      · have hqz : (n : Int) / 256 ^ (i + 1) = (n : Int) / 256 ^ i / 256 := by
          have h := congrArg (fun x : Nat => (x : Int)) hqn
          simpa using h
        simp [hqz, wrap64 (n := (i : Int) + 1) (by omega) (by omega)]
      · simp [byL_succ, List.take_of_length_le, hlb]
    · have : i = 4 := by omega
      subst this
      simp
      exact fin_W (by simp)
theorem numstep (x : UInt8) (r : List UInt8) (h : r.length ≤ 3) : IntKind.u32.wrap (IntKind.u32.wrap ((byN r : Nat) * 256) + (x.toNat : Nat)) = (byN (x :: r) : Nat) := by
  have hx := x.toNat_lt
  have h1 : byN r < 256 ^ 3 := Nat.lt_of_lt_of_le (byN_lt r) (Nat.pow_le_pow_right (by omega) h)
  rw [show ((byN r : Nat) : Int) * 256 = ((byN r * 256 : Nat) : Int) by simp, wrapu32, Nat.mod_eq_of_lt (by omega), ← Int.natCast_add, wrapu32, Nat.mod_eq_of_lt (by omega)]
  simp only [byN]; congr 1; omega
theorem fPRNumber_spec (a b c d : UInt8) (md : Md) : FSpec Try.prog 83 [.list 1 md ([a, b, c, d].map bv)] [] (.int .u32 (byN [a, b, c, d] : Nat)) [] := by
  have ha := a.toNat_lt; have hb := b.toNat_lt; have hc := c.toNat_lt; have hd := d.toNat_lt
  refine FSpec.of_W fPRNumber_low (by simp) ?_
  simp only [initEnv]
  simp
  refine W_loop (X := { i : Nat // i ≤ 4 }) (fun i => [(0, .list 1 md ([a, b, c, d].map bv)), (3, .int .u32 (byN ([a, b, c, d].drop i.1) : Nat)), (4, .int .i64 ((i.1 : Int) - 1))]) (fun i => []) (fun i => i.1) ⟨4, by simp⟩ retPost_le ?_ ?_
  · refine cut_w ?_
    simp [byN]
  · rintro ⟨i, hi⟩
    simp only
    simp
    obtain rfl | rfl | rfl | rfl | rfl : i = 0 ∨ i = 1 ∨ i = 2 ∨ i = 3 ∨ i = 4 := by omega
    · simp
      exact fin_W (by simp)
    · simp [wrap_b32, numstep a [b, c, d] (by simp)]
      refine ⟨⟨0, by simp⟩, by simp, cut_w ?_⟩
      simp
      rfl
    · simp [wrap_b32, numstep b [c, d] (by simp)]
      refine ⟨⟨1, by simp⟩, by simp, cut_w ?_⟩
      simp
      rfl
    · simp [wrap_b32, numstep c [d] (by simp)]
      refine ⟨⟨2, by simp⟩, by simp, cut_w ?_⟩
      simp
      rfl
    · simp [wrap_b32, numstep d [] (by simp)]
      refine ⟨⟨3, by simp⟩, by simp, cut_w ?_⟩
      simp
      rfl
theorem fPRNumber_list (l : List UInt8) (h : l.length = 4) (md : Md) : FSpec Try.prog 83 [.list 1 md (l.map bv)] [] (.int .u32 (byN l : Nat)) [] := by
  match l, h with
  | [a, b, c, d], _ => exact fPRNumber_spec a b c d md
theorem fPRNumber_at (b : List UInt8) (k : Nat) (h : k + 4 ≤ b.length) (md : Md) : FSpec Try.prog 83 [.list 1 md (((b.map bv).drop k).take 4)] [] (.int .u32 (byN ((b.drop k).take 4) : Nat)) [] := by
  have := fPRNumber_list ((b.drop k).take 4) (by simp; omega) md
  rwa [List.map_take, List.map_drop] at this
theorem fRRecEncode_spec (r : Rec) (hr : r.Ok) (md : Md) (hm : md.bw = false) : FSpec Try.prog 77 [.agg (recR r md)] [] (.tuple [.list 1 ⟨false, false, false⟩ ((encF r).1.map bv), .int .i64 (encF r).2]) [] := by
  have hi := hr.init
  have hR := fRRecRight_spec r hr md hm
  have hR2 : r.right = true → r.init.length ≤ 128 := fun h => by
    simp only [Rec.right, decide_eq_true_eq] at h; exact h.2.2.2.1
  obtain ⟨E, hE⟩ : ∃ E, E = encF r := ⟨_, rfl⟩
  rw [← hE]
  unfold encF at hE
  have W0 := fPRWord_own 827216706 (by decide)
  have W1 := fPRWord_spec r.seq hr.seq
  have W2 := fPRWord_spec r.floor hr.floor
  have W3 := fPRWord_spec r.bytes hr.bytes
  have W4 := fPRWord_spec r.sum hr.sum
  have W5 := fPRWord_spec r.done hr.done
  have e8 : IntKind.u8.wrap (r.init.length : Int) = ((UInt8.ofNat r.init.length).toNat : Int) := wrap8_u8 _
  have l0 : (byL 4 827216706).length = 4 := byL_len _ _
  have l1 : (byL 4 r.seq).length = 4 := byL_len _ _
  have l2 : (byL 4 r.floor).length = 4 := byL_len _ _
  have l3 : (byL 4 r.bytes).length = 4 := byL_len _ _
  have l4 : (byL 4 r.sum).length = 4 := byL_len _ _
  have l5 : (byL 4 r.done).length = 4 := byL_len _ _
  have hbody : recBody r = byL 4 827216706 ++ byL 4 r.seq ++ byL 4 r.floor ++ byL 4 r.bytes ++ byL 4 r.sum ++ [r.phase, UInt8.ofNat r.init.length, 0, 0] ++ byL 4 r.done ++ r.init ++ List.replicate (128 - r.init.length) 0 := rfl
  have hB : recB r = recBody r ++ byL 4 (recSum (recBody r)) := rfl
  have hbl : r.init.length ≤ 128 → (recBody r).length = 156 := recBody_len
  obtain ⟨Y, hY⟩ : ∃ Y, Y = recBody r := ⟨_, rfl⟩
  rw [← hY] at hbody hB hbl
  have hSm := fun (h : Y.length < 2 ^ 40) => fRRecSum_spec Y ⟨false, false, true⟩ h
  have hslt := recSum_lt Y
  generalize recSum Y = s at *
  have WS := fPRWord_spec s hslt
  have l6 : (byL 4 s).length = 4 := byL_len _ _
  rw [hB] at hE
  generalize byL 4 s = BS at *
  generalize byL 4 827216706 = B0 at *
  generalize byL 4 r.seq = B1 at *
  generalize byL 4 r.floor = B2 at *
  generalize byL 4 r.bytes = B3 at *
  generalize byL 4 r.sum = B4 at *
  generalize byL 4 r.done = B5 at *
  generalize UInt8.ofNat r.init.length = ln at *
  clear hY hB
  refine FSpec.of_W fRRecEncode_low (by simp) ?_
  simp only [initEnv]
  simp only [recR] at hR ⊢
  simp [hm]
  refine WO_callP [] rfl rfl hR (by simp) (by simp) ?_
  simp
  refine WC_b (fun h => ?_) (fun h => ?_)
  · simp at h
    rw [if_neg (by simp [h])] at hE
    rw [hE]
    simp
    exact fin_W (by simp)
  · simp at h
    have hil := hR2 h
    rw [if_pos h] at hE
    simp
    refine WO_callF [] rfl rfl W0 (by simp) (by simp) (by simp) ?_
    simp
    refine WO_callP [] rfl rfl W1 (by simp) (by simp) ?_
    simp [l0, l1, List.take_of_length_le]
    refine WO_callP [] rfl rfl W2 (by simp) (by simp) ?_
    simp [l0, l1, l2, List.take_of_length_le]
    refine WO_callP [] rfl rfl W3 (by simp) (by simp) ?_
    simp [l0, l1, l2, l3, List.take_of_length_le]
    refine WO_callP [] rfl rfl W4 (by simp) (by simp) ?_
    simp [l0, l1, l2, l3, l4, e8, List.take_of_length_le]
    refine WO_callP [] rfl rfl W5 (by simp) (by simp) ?_
    simp [l0, l1, l2, l3, l4, l5, e8, List.take_of_length_le]
    refine ⟨by omega, ?_⟩
    obtain ⟨P, hP⟩ : ∃ P, P = B0 ++ B1 ++ B2 ++ B3 ++ B4 ++ [r.phase, ln, 0, 0] ++ B5 ++ r.init := ⟨_, rfl⟩
    have hPl : P.length = 28 + r.init.length := by rw [hP]; simp; omega
    rw [← hP] at hbody
    refine W_loop (X := { k : Nat // k ≤ 128 - r.init.length }) (fun k => [(5, .slice 1 0 0 (28 + r.init.length + k.1) none)]) (fun k => [some ⟨(P ++ List.replicate k.1 0).map bv, 5, false⟩]) (fun k => 128 - r.init.length - k.1) ⟨0, by omega⟩ retPost_le ?_ ?_
    · refine cut_rw [11] (by simp) rfl ?_ ?_
      · simp
      · simp [hP]
    · rintro ⟨k, hk⟩
      simp only
      simp
      refine WC_dec (fun hl => ?_) (fun hl => ?_)
      · simp
        refine ⟨by omega, ⟨k + 1, by omega⟩, by simp; omega, ?_⟩
        refine cut_rw [1] (by simp) rfl ?_ ?_
        · simp [Nat.add_assoc]
        · have e : (List.map bv P ++ List.replicate k (AV.int .u8 0)).take (28 + r.init.length + k) = List.map bv P ++ List.replicate k (AV.int .u8 0) := List.take_of_length_le (by simp; omega)
          simp [e, List.replicate_succ']
      · have hk2 : k = 128 - r.init.length := by omega
        have hYe : List.map bv P ++ List.replicate k (AV.int .u8 0) = Y.map bv := by rw [hbody, hk2]; simp
        have hYl := hbl hil
        rw [hYe, show 28 + r.init.length + k = 156 by omega]
        have hS2 := hSm (by omega)
        have hYt : (Y.map bv).take 156 = Y.map bv := List.take_of_length_le (by simp [hYl])
        have hYml : 156 ≤ Y.length := by omega
        simp
        refine WO_callP (as' := [.list 1 ⟨false, false, true⟩ (Y.map bv)]) [0] rfl (by simp [hYt, hYml]) hS2 (by simp) (by simp) ?_
        simp
        refine WO_callP [] rfl rfl WS (by simp) (by simp) ?_
        simp [l6, hYl, hYt]
        rw [hE]
        have ht160 : (Y.map bv ++ BS.map bv).take 160 = Y.map bv ++ BS.map bv := List.take_of_length_le (by simp [hYl, l6])
        refine fin_F 1 rfl (fin_W ?_)
        simp [ht160, hYl, l6]
def recRR (x : Rec × Int) : AV := .tuple [.agg (recR x.1 ⟨false, false, false⟩), .int .i64 x.2]
theorem fPRNumber_k (b : List UInt8) (k : Nat) (h : k + 4 ≤ b.length) (md : Md) : FSpec Try.prog 83 [.list 1 md (((b.map bv).drop k).take 4)] [] (.int .u32 (at4 b k : Nat)) [] := fPRNumber_at b k h md
set_option maxRecDepth 100000 in
set_option maxHeartbeats 1000000 in
theorem fRRecParse_spec (b : List UInt8) (md : Md) (hb : b.length < 2 ^ 40) : FSpec Try.prog 74 [.list 1 md (b.map bv)] [] (recRR (parseR b)) [] := by
  have gk : ∀ k, k + 4 ≤ 160 → b.length = 160 → ∀ md, FSpec Try.prog 83 [.list 1 md (((b.map bv).drop k).take 4)] [] (.int .u32 (at4 b k : Nat)) [] := fun k hk h md => fPRNumber_k b k (by omega) md
  have hE := fun nl => fRRecEncode_spec (recOf b) (recOf_ok b) ⟨nl, false, false⟩ rfl
  obtain ⟨R, hR⟩ : ∃ R, R = parseR b := ⟨_, rfl⟩
  rw [← hR]
  unfold parseR at hR
  obtain ⟨s, hs⟩ : ∃ s, s = recSum (b.take 156) := ⟨_, rfl⟩
  obtain ⟨x, hx⟩ : ∃ x, x = b.getD 21 0 := ⟨_, rfl⟩
  obtain ⟨y, hy⟩ : ∃ y, y = b.getD 20 0 := ⟨_, rfl⟩
  rw [← hs, ← hx] at hR
  by_cases hl : ¬ b.length = 160
  · rw [if_pos (fun h => hl h.1)] at hR
    rw [hR]
    refine FSpec.of_W fRRecParse_low (by simp) ?_
    simp only [initEnv]
    have hl' : ¬ (b.length : Int) = 160 := by omega
    simp [hl, hl']
    exact fin_W (by simp [recRR, recR, rec0])
  simp only [Classical.not_not] at hl
  have hl' : (b.length : Int) = 160 := by omega
  by_cases hmk : ¬ at4 b 0 = markN
  · rw [if_pos (fun h => hmk h.2)] at hR
    rw [hR]
    refine FSpec.of_W fRRecParse_low (by simp) ?_
    simp only [initEnv]
    have hmk' : ¬ (at4 b 0 : Int) = 827216706 := by unfold markN at hmk; omega
    have g0 := gk 0 (by omega) hl ⟨md.nl, false, md.bw⟩
    rw [List.drop_zero] at g0
    simp [hl', hl]
    refine WO_callP [] rfl rfl g0 (by simp) (by simp) ?_
    simp [hmk']
    exact fin_W (by simp [recRR, recR, rec0])
  simp only [Classical.not_not] at hmk
  have hmk' : (at4 b 0 : Int) = 827216706 := by rw [hmk]; rfl
  rw [if_neg (fun h => h ⟨hl, hmk⟩)] at hR
  have hS := fRRecSum_spec (b.take 156) ⟨md.nl, false, md.bw⟩ (by simp; omega)
  have hx21 : b[21]? = some x := by rw [hx, List.getD_eq_getElem?_getD, List.getElem?_eq_getElem (by omega)]; rfl
  have hx20 : b[20]? = some y := by rw [hy, List.getD_eq_getElem?_getD, List.getElem?_eq_getElem (by omega)]; rfl
  rw [← hs, List.map_take] at hS
  have hro : recOf b = ⟨at4 b 4, at4 b 8, at4 b 12, at4 b 16, y, at4 b 24, (b.drop 28).take x.toNat⟩ := by rw [hx, hy]; rfl
  have g0 := gk 0 (by omega) hl ⟨md.nl, false, md.bw⟩
  rw [List.drop_zero] at g0
  have g4 := gk 4 (by omega) hl
  have g8 := gk 8 (by omega) hl
  have g12 := gk 12 (by omega) hl
  have g16 := gk 16 (by omega) hl
  have g24 := gk 24 (by omega) hl
  have g156 := gk 156 (by omega) hl
  rw [hro] at hE hR
  have hg21 : b[21]'(by omega) = x := by rw [List.getElem?_eq_getElem (by omega)] at hx21; exact Option.some.inj hx21
  have hg20 : b[20]'(by omega) = y := by rw [List.getElem?_eq_getElem (by omega)] at hx20; exact Option.some.inj hx20
  clear hro gk hmk hs hx hy
  generalize at4 b 0 = v0 at *
  generalize at4 b 4 = v4 at *
  generalize at4 b 8 = v8 at *
  generalize at4 b 12 = v12 at *
  generalize at4 b 16 = v16 at *
  generalize at4 b 24 = v24 at *
  generalize at4 b 156 = v156 at *
  refine FSpec.of_W fRRecParse_low (by simp) ?_
  simp only [initEnv]
  simp [hl', hl]
  refine WO_callP [] rfl rfl g0 (by simp) (by simp) ?_
  simp [hmk', hl]
  refine WO_callP [] rfl rfl (g156 _) (by simp) (by simp) ?_
  simp [hl]
  refine WO_callP [] rfl rfl hS (by simp) (by simp) ?_
  simp
  refine WC_ndec (fun hsm => ?_) (fun hsm => ?_)
  · rw [if_pos (by omega)] at hR
    rw [hR]
    simp
    exact fin_W (by simp [recRR, recR, rec0])
  rw [if_neg (by omega)] at hR
  have hx8 := x.toNat_lt
  have e1 : IntKind.i64.wrap (x.toNat : Int) = (x.toNat : Nat) := wrap64 (by omega) (by omega)
  simp [hg21, hx21, hg20, hx20, hl, e1]
  refine WO_callQ rfl (g4 _) (by simp) ?_
  simp [hg21, hx21, hg20, hx20, hl, e1]
  refine WO_callQ rfl (g8 _) (by simp) ?_
  simp [hg21, hx21, hg20, hx20, hl, e1]
  refine WO_callQ rfl (g12 _) (by simp) ?_
  simp [hg21, hx21, hg20, hx20, hl, e1]
  refine WO_callQ rfl (g16 _) (by simp) ?_
  simp [hg21, hx21, hg20, hx20, hl, e1]
  refine WO_callQ rfl (g24 _) (by simp) ?_
  have e2 : IntKind.i64.wrap (28 + (x.toNat : Int)) = ((28 + x.toNat : Nat) : Int) := by rw [show 28 + (x.toNat : Int) = ((28 + x.toNat : Nat) : Int) by omega]; exact wrap64 (by omega) (by omega)
  have e3 : (28 + (x.toNat : Int)).toNat = 28 + x.toNat := by omega
  rw [Int.natCast_add] at e2
  simp only [Int.cast_ofNat_Int] at e2
  simp [hg21, hx21, hg20, hx20, e1, e2, e3, hl]
  refine WC_dec (fun h128 => ?_) (fun h128 => ?_)
  · rw [if_pos (by omega)] at hR
    rw [hR]
    simp
    exact fin_W (by simp [recRR, recR, rec0])
  rw [if_neg (by omega)] at hR
  simp [e2, e3, hl]
  refine ⟨⟨by omega, by omega⟩, ⟨by omega, by omega⟩, ?_⟩
  have hE1 := hE false
  obtain ⟨r, hr⟩ : ∃ r : Rec, r = ⟨v4, v8, v12, v16, y, v24, (b.drop 28).take x.toNat⟩ := ⟨_, rfl⟩
  rw [← hr] at hE1 hR
  have hlen : ∀ c, encF r = (c, 0) → c.length = 160 := fun c => encF_len
  obtain ⟨E, hEe⟩ : ∃ E, E = encF r := ⟨_, rfl⟩
  rw [← hEe] at hE1 hR hlen
  obtain ⟨c, e⟩ := E
  have hcells : recR r ⟨false, false, false⟩ = [.int .u32 (v4 : Nat), .int .u32 (v8 : Nat), .int .u32 (v12 : Nat), .int .u32 (v16 : Nat), .int .u32 (v24 : Nat), bv y, .list 1 ⟨false, false, false⟩ (((b.map bv).drop 28).take x.toNat)] := by
    rw [hr]; simp [recR, List.map_take, List.map_drop]
  rw [hcells] at hE1
  clear hEe hE
  refine WO_callP [] rfl rfl hE1 (by simp) (by simp) ?_
  simp
  refine WC_ndec (fun he => ?_) (fun he => ?_)
  · rw [if_neg (fun q => he (by injection q))] at hR
    rw [hR]
    simp
    exact fin_W (by simp [recRR, recR, rec0])
  subst he
  have hcl := hlen c rfl
  simp
  refine W_loop (X := { i : Nat // i ≤ 160 ∧ b.take i = c.take i }) (fun i => [(0, .list 1 md (b.map bv)), (2, .ptr 0 0), (4, .ptr 1 0), (6, .list 1 ⟨false, false, false⟩ (c.map bv)), (8, .int .i64 i.1)])
    (fun _ => [some ⟨recR rec0 ⟨true, true, false⟩, 81, true⟩, some ⟨recR r ⟨false, false, false⟩, 81, true⟩]) (fun i => 160 - i.1) ⟨0, by simp⟩ retPost_le ?_ ?_
  · refine cut_w ?_
    rw [hcells]
    simp [recR, rec0]
  · rintro ⟨i, hi, hE2⟩
    simp only
    simp
    refine WC_dec (fun hlt => ?_) (fun hlt => ?_)
    · have w1 : IntKind.i64.wrap ((i : Int) + 1) = (i : Int) + 1 := wrap64s (by omega) (by omega)
      have hbi : b[i]? = some (b[i]'(by omega)) := List.getElem?_eq_getElem (by omega)
      have hci : c[i]? = some (c[i]'(by omega)) := List.getElem?_eq_getElem (by omega)
      obtain ⟨u, hu⟩ : ∃ u, u = b[i]'(by omega) := ⟨_, rfl⟩
      obtain ⟨w, hw⟩ : ∃ w, w = c[i]'(by omega) := ⟨_, rfl⟩
      rw [← hu] at hbi
      rw [← hw] at hci
      simp [hbi, hci]
      refine ⟨by omega, by omega, ?_⟩
      refine WC_ndec (fun hq => ?_) (fun hq => ?_)
      · have hne : c ≠ b := fun q => hq (by rw [q, hbi] at hci; rw [Option.some.inj hci])
        rw [if_neg (fun q => hne (by injection q))] at hR
        rw [hR]
        simp [recR, rec0]
        exact fin_W (by simp [recRR, recR, rec0])
      · have huw : u = w := UInt8.toNat_inj.1 (by omega)
        simp
        exact ⟨⟨i + 1, by omega, by rw [List.take_add_one, List.take_add_one, hE2, hbi, hci, huw]⟩, by simp; omega, cut_w (by simp [w1])⟩
    · have : i = 160 := by omega
      subst this
      rw [List.take_of_length_le (by omega), List.take_of_length_le (by omega)] at hE2
      rw [if_pos (by rw [hE2])] at hR
      rw [hR]
      have hsf : splice (recR rec0 ⟨true, true, false⟩) 0 (recR r ⟨false, false, false⟩) = recR r ⟨false, false, false⟩ := splice_full (by simp)
      simp [cleanL_recR, hsf]
      exact fin_W (by simp [recRR])
end Go.Proofs.Ytjehncilahjmdaa
