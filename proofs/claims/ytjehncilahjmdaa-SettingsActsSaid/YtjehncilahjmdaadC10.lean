/-
  The law of settings' calls.
-/
import Derived.Test.YtjehncilahjmdaadC7
import Derived.Test.YtjehncilahjmdaadC9
set_option linter.unusedSimpArgs false
set_option linter.unnecessarySimpa false
set_option linter.unusedVariables false
set_option linter.unusedSectionVars false
namespace Go.Proofs.Ytjehncilahjmdaa
open Go Go.Fw
attribute [local simp] bv cleanL_bv toBytes_bv ltL_bv atF_drop WS_at_bytes W_nil W_skip W_seq W_reg W_draw W_drawP W_kill W_keep W_block W_blk W_exit W_ret WX_blk WX_c WX_lp WX_li W_li W_condT W_condF W_cond WC_true WC_false
  WR_nil WR_cons WR_o1 WR_o2 o1_chk o2_chk WR_grd WG_tt WG_ff WG_tf WG_ft WG_none WS_some WS_ok1 WSr_no WSr_some WSr_ok1 WSr_at_bytes WH_some WHA_some chkF_cons chkF_nil chkE_some chkE_ok1 chkE_at evF WO_mv WO_pick WO_bin WO_isNil WO_eqA WO_un WO_convI WO_toStr WO_ofStr WO_build WO_buildF WO_load WO_nilCheck WO_fieldAddr WO_field WO_idxA WO_idxS
  WO_ixA WO_slS WO_slA WO_len WO_lenK WO_appF WO_extract WO_s2a WO_iface WO_min WO_max WO_alloc WO_box WO_buildO WO_store WO_appO WO_copy WO_makeS WO_allocA WO_makeA WO_cvt cvtF_slice WO_look lookF_map alAF mkAF WO_func bind1_v bind2_v bindH_v bindH2_v bindS_v okO_v pickO_t pickO_f
  Env.keep Env.get Env.set Env.del Env.dels Env.setO Env.opd Env.opds Env.opdO Env.parts intF aggF fillA splice cleanL AV.clean bndF fldF_one fldF_many toStrF boxF buildOF
  loadF_rptr loadF_rptrN atF_zero atF_succ blk_cons_zero blk_cons_succ loadF_p loadF_pN atB_some atBN_some retPost resL one
  okc_bool cells_bool notStr_bool okc_int cells_int notStr_int okc_str cells_str notStr_str okc_nil cells_nil notStr_nil okc_ptr cells_ptr notStr_ptr okc_rptr cells_rptr notStr_rptr okc_slice cells_slice notStr_slice 
  okc_list cells_list notStr_list okc_func cells_func notStr_func okc_nilFunc cells_nilFunc notStr_nilFunc okc_iface cells_iface notStr_iface okc_nilIface cells_nilIface notStr_nilIface okc_agg cells_agg notStr_agg 
  okc_tuple cells_tuple notStr_tuple lenF_slice lenF_list lenF_str faF_ptr faF_rptr idxSF_slice idxSF_list idxAF_ptr idxAF_rptr ixAF_many ixAF_one convF_int unF_neg unF_xor unF_not nilF_0nil nilF_0ptr nilF_0rptr nilF_1 
  nilF_2nil nilF_2f nilF_3nil nilF_3f binF_int binF_beq binF_bne binF_sadd binF_seq binF_sne sliceCells_list sliceCells_str sliceCells_slice cutC_some szAV_list szAV_str szAV_slice oneSl_list oneSl_slice slSF_sliceS 
  slSF_sliceN slSF_list slAF_rptr slAF_ptr appFF_list appOF_list appOF_sliceN appOF_sliceS storeF_ptr copyF_slice extF_tuple s2aF_slice s2aF_list nchkF_ptr nchkF_rptr nchkF_f mmF_int ofStrF_str mkSF_int eqAF_agg
attribute [local irreducible] W WX WR WO WS WSr WH WHA WG WC FSpec
attribute [local simp] lendAll
attribute [local congr] W_cg WR_cg WO_cg WS_cg WSr_cg WH_cg WHA_cg WG_cg WC_cg WX_cg
attribute [local simp] Env.has AV.wkr wkrL AV.wkr_refl wkrL_refl AV.ltI ltL leHW hasW Env.lt AV.ids idsL AV.sub subL AV.ren AV.frz frzS frzP frzE frzL Heap.frz Blk.frz Blk.ren renL rnS rnP hasR leR idsL_bv subL_bv
attribute [local simp] cleanL_take cleanL_drop ltL_take ltL_drop idsL_take idsL_drop subL_take subL_drop cleanL_append ltL_append idsL_append subL_append
attribute [local simp] renE mvN mvH
attribute [local simp] fwd backH putL bwd
attribute [local simp] u8i u8e List.idxOf_cons
attribute [local simp] hasRW leRW
attribute [local simp] WS_at_map WSr_at_map loadWP splice_full Int.natCast_inj
/-- Two flashes, one behind the other. -/
def tw2 (f g : Fl) : Heap := flP f ++ [some ⟨[.slice 1 4 0 g.b.length none, .int .i64 g.lo, .int .i64 g.hi, .bool g.armed, .int .i64 g.left, .int .u32 (g.tear : Nat), .bool g.off, .slice 1 5 0 g.worn.length none, .int .i64 g.ops], 57, true⟩, some ⟨g.b.map bv, 5, false⟩, some ⟨g.worn.map iv, 3, false⟩]
/-- A call. -/
structure SAct where
  kind : UInt8
  n : Int
  tear : Nat
  r : Rec
def sActS (a : SAct) (n : Nat) (g : Fl) : Fl :=
  if a.kind.toNat % 6 = 0 then (saveS g a.r).2.2
  else if a.kind.toNat % 6 = 1 then (failF g n a.tear).2
  else if a.kind.toNat % 6 = 2 then powerF g
  else if a.kind.toNat % 6 = 4 then (eraseF g (n % 3 : Nat)).2
  else if a.kind.toNat % 6 = 5 then (progF g (4 * n : Nat) (byL 4 a.tear)).2
  else g
def sActP (a : SAct) (md : Md) : List AV := [bv a.kind, .int .i64 a.n, .int .u32 (a.tear : Nat)] ++ recP a.r md
def sActN (a : SAct) : Nat := (IntKind.u64.wrap a.n).toNat % 200
theorem sActS_ok {a : SAct} {g : Fl} (hg : g.Ok) (ht : a.tear < 2 ^ 32) : (sActS a (sActN a) g).Ok := by
  have hn : sActN a < 200 := Nat.mod_lt _ (by decide)
  unfold sActS
  split
  · exact (saveS_ok hg _).1
  split
  · exact failF_ok hg (by omega) ht
  split
  · exact powerF_ok hg
  split
  · exact (eraseF_ok hg _).1
  split
  · exact (progF_ok hg _ _).1
  · exact hg
set_option maxRecDepth 100000 in
set_option maxHeartbeats 2000000 in
theorem fSetStep_spec (g : Fl) (hg : g.Ok) (a : SAct) (ht : a.tear < 2 ^ 32) (hr : a.r.Ok) (md : Md) (hm : md.bw = false) : FSpec Try.prog 29 [.ptr 0 0, .ptr 3 0, .agg (sActP a md)] (tw2 g g) (.bool true) (tw2 (sActS a (sActN a) g) (sActS a (sActN a) g)) := by
  obtain ⟨N, hN64, hNw⟩ : ∃ N : Nat, N < 2 ^ 64 ∧ IntKind.u64.wrap a.n = N := by
    refine ⟨(a.n % 2 ^ 64).toNat, by omega, ?_⟩
    unfold IntKind.wrap
    simp [IntKind.signed, IntKind.bits]
    omega
  obtain ⟨n, hn⟩ : ∃ n, n = sActN a := ⟨_, rfl⟩
  have hn2 : n = N % 200 := by rw [hn, sActN, hNw]; simp
  have hn200 : n < 200 := by omega
  rw [← hn]
  have e8 : (N : Int).tmod 200 = (n : Nat) := by rw [hn2]; rfl
  have e9 : IntKind.i64.wrap (n : Int) = n := wrap64 (by omega) (by omega)
  obtain ⟨k, hk⟩ : ∃ k, k = a.kind.toNat % 6 := ⟨_, rfl⟩
  have e10 : (a.kind.toNat : Int).tmod 6 = (k : Nat) := by rw [hk]; rfl
  obtain ⟨S, hS⟩ : ∃ S, S = sActS a n g := ⟨_, rfl⟩
  rw [← hS]
  unfold sActS at hS
  rw [← hk] at hS
  refine FSpec.of_W fSetStep_low (by simp) ?_
  simp only [initEnv]
  simp only [tw2, flP, List.cons_append, List.nil_append]
  simp [sActP, recP, hm, hNw, e8, e9, e10]
  by_cases k0 : k = 0
  · rw [if_pos k0] at hS
    have s1 := fSetSave_spec g hg a.r hr md hm
    have s2 := fRSetSave_spec g hg a.r hr md hm
    have s3 := fSetOf_spec a.r md hm
    rw [← hS] at s1 s2
    obtain ⟨x, e, hx⟩ : ∃ x e, (saveS g a.r).1 = x ∧ (saveS g a.r).2.1 = e := ⟨_, _, rfl, rfl⟩
    rw [hx.1, hx.2] at s1 s2
    have s4 := fSetOf_spec x ⟨false, false, false⟩ rfl
    have s5 := fRSetSame_spec x x ⟨false, false, false⟩ ⟨false, false, false⟩ rfl rfl
    simp only [recP] at s1 s4
    simp only [recR] at s2 s3 s4 s5
    simp only [svP, recP] at s1
    simp only [svR, recR] at s2
    simp [k0, hm]
    refine WO_callF [0, 1, 2] rfl (by simp [bv]) s1 (by simp [flP]) (by simp [flP]) (by simp) ?_
    simp [flP, hm]
    refine WO_callP [] rfl rfl s3 (by simp [hm]) (by simp) ?_
    simp [hm]
    refine WO_callF [3, 4, 5] rfl (by simp [bv]) s2 (by simp [rflP]) (by simp [rflP]) (by simp) ?_
    simp [rflP]
    refine WO_callP [] rfl rfl s4 (by simp) (by simp) ?_
    simp
    refine WO_callP [] rfl rfl s5 (by simp) (by simp) ?_
    simp
    exact fin_W (by simp)
  rw [if_neg k0] at hS
  by_cases k1 : k = 1
  · rw [if_pos k1] at hS
    have s1 := fFlFail_spec g n a.tear
    have s2 := fRFlFail_spec g n a.tear
    rw [← hS] at s1 s2
    generalize (failF g n a.tear).1 = e at s1 s2
    simp [k1, hm]
    refine WO_callF [0, 1, 2] rfl rfl s1 (by simp [flP]) (by simp [flP]) (by simp [flP]) ?_
    simp [flP]
    refine WO_callF [3, 4, 5] rfl rfl s2 (by simp [rflP]) (by simp [rflP]) (by simp) ?_
    simp [rflP]
    exact fin_W (by simp)
  rw [if_neg k1] at hS
  by_cases k4 : k = 4
  · rw [if_neg (by omega), if_pos k4] at hS
    have s1 := fFlErase_spec g hg (n % 3 : Nat) (by omega)
    have s2 := fRFlErase_spec g hg (n % 3 : Nat) (by omega)
    rw [← hS] at s1 s2
    generalize (eraseF g (n % 3 : Nat)).1 = e at s1 s2
    have e11 : (n : Int).tmod 3 = ((n % 3 : Nat) : Int) := rfl
    obtain ⟨q, hq⟩ : ∃ q, q = n % 3 := ⟨_, rfl⟩
    rw [← hq] at e11 s1 s2
    simp [k4, hm, e11]
    refine WO_callF [0, 1, 2] rfl rfl s1 (by simp [flP]) (by simp [flP]) (by simp) ?_
    simp [flP, e11]
    refine WO_callF [3, 4, 5] rfl rfl s2 (by simp [rflP]) (by simp [rflP]) (by simp) ?_
    simp [rflP]
    exact fin_W (by simp)
  by_cases k5 : k = 5
  · rw [if_neg (by omega), if_neg k4, if_pos k5] at hS
    have s1 := fFlProg_spec g hg (4 * n : Nat) (by omega) (byL 4 a.tear) ⟨false, true, false⟩ (by simp [byL_len])
    have s2 := fRFlProg_spec g hg (4 * n : Nat) (by omega) (byL 4 a.tear) ⟨false, true, false⟩ (by simp [byL_len])
    rw [← hS] at s1 s2
    generalize (progF g (4 * n : Nat) (byL 4 a.tear)).1 = e at s1 s2
    have e11 : IntKind.i64.wrap (4 * (n : Int)) = ((4 * n : Nat) : Int) := by rw [show (4 : Int) * n = ((4 * n : Nat) : Int) by omega]; exact wrap64 (by omega) (by omega)
    obtain ⟨q, hq⟩ : ∃ q, q = 4 * n := ⟨_, rfl⟩
    rw [← hq] at e11 s1 s2
    rw [byL4] at s1 s2
    have z0 := wrap8_u8 a.tear
    have z1 : IntKind.u8.wrap ((a.tear : Int).fdiv 256) = ((UInt8.ofNat (a.tear / 256)).toNat : Int) := by rw [show (256 : Int) = 2 ^ 8 from rfl, shr_nat]; exact wrap8_u8 _
    have z2 : IntKind.u8.wrap ((a.tear : Int).fdiv 65536) = ((UInt8.ofNat (a.tear / 65536)).toNat : Int) := by rw [show (65536 : Int) = 2 ^ 16 from rfl, shr_nat]; exact wrap8_u8 _
    have z3 : IntKind.u8.wrap ((a.tear : Int).fdiv 16777216) = ((UInt8.ofNat (a.tear / 16777216)).toNat : Int) := by rw [show (16777216 : Int) = 2 ^ 24 from rfl, shr_nat]; exact wrap8_u8 _
    generalize UInt8.ofNat a.tear = t0 at *
    generalize UInt8.ofNat (a.tear / 256) = t1 at *
    generalize UInt8.ofNat (a.tear / 65536) = t2 at *
    generalize UInt8.ofNat (a.tear / 16777216) = t3 at *
    simp only [List.map_cons, List.map_nil, bv] at s1 s2
    simp [k5, hm, e11, z0, z1, z2, z3, IntKind.bits]
    refine WO_callF [0, 1, 2] rfl rfl s1 (by simp [flP]) (by simp [flP]) (by simp) ?_
    simp [flP, e11]
    refine WO_callF [3, 4, 5] rfl rfl s2 (by simp [rflP]) (by simp [rflP]) (by simp) ?_
    simp [rflP]
    exact fin_W (by simp)
  rw [if_neg k4, if_neg k5] at hS
  by_cases k2 : k = 2
  · rw [if_pos k2] at hS
    have s1 := fFlPower_spec g
    have s2 := fRFlPower_spec g
    have hSk : S.Ok := by rw [hS]; exact powerF_ok hg
    rw [← hS] at s1 s2
    have s3 := fSetLoad_spec S hSk
    have s4 := fRSetLoad_spec S hSk
    obtain ⟨x, p, e, hx⟩ : ∃ x p e, loadS S = (x, p, e) := ⟨_, _, _, rfl⟩
    rw [hx] at s3 s4
    have s5 := fSetOf_spec x ⟨false, false, false⟩ rfl
    have s6 := fRSetSame_spec x x ⟨false, false, false⟩ ⟨false, false, false⟩ rfl rfl
    simp only [ldP, recP] at s3 s5
    simp only [ldR, recR] at s4 s5 s6
    simp [k2, hm]
    refine WO_callF [0, 1, 2] rfl rfl s1 (by simp [flP]) (by simp [flP]) (by simp) ?_
    simp [flP]
    refine WO_callF [3, 4, 5] rfl rfl s2 (by simp [rflP]) (by simp [rflP]) (by simp) ?_
    simp [rflP]
    refine WO_callF [0, 1, 2] rfl rfl s3 (by simp [flP]) (by simp [flP]) (by simp) ?_
    simp [flP]
    refine WO_callF [3, 4, 5] rfl rfl s4 (by simp [rflP]) (by simp [rflP]) (by simp) ?_
    simp [rflP]
    refine WO_callP [] rfl rfl s5 (by simp) (by simp) ?_
    simp
    refine WO_callP [] rfl rfl s6 (by simp) (by simp) ?_
    simp
    exact fin_W (by simp)
  · rw [if_neg k2] at hS
    subst hS
    have s3 := fSetLoad_spec S hg
    have s4 := fRSetLoad_spec S hg
    obtain ⟨x, p, e, hx⟩ : ∃ x p e, loadS S = (x, p, e) := ⟨_, _, _, rfl⟩
    rw [hx] at s3 s4
    have s5 := fSetOf_spec x ⟨false, false, false⟩ rfl
    have s6 := fRSetSame_spec x x ⟨false, false, false⟩ ⟨false, false, false⟩ rfl rfl
    simp only [ldP, recP] at s3 s5
    simp only [ldR, recR] at s4 s5 s6
    have k0' : ¬ (k : Int) = 0 := by omega
    have k1' : ¬ (k : Int) = 1 := by omega
    have k2' : ¬ (k : Int) = 2 := by omega
    have k4' : ¬ (k : Int) = 4 := by omega
    have k5' : ¬ (k : Int) = 5 := by omega
    simp [k0, k1, k2, k4, k5, k0', k1', k2', k4', k5', hm]
    refine WO_callF [0, 1, 2] rfl rfl s3 (by simp [flP]) (by simp [flP]) (by simp) ?_
    simp [flP]
    refine WO_callF [3, 4, 5] rfl rfl s4 (by simp [rflP]) (by simp [rflP]) (by simp) ?_
    simp [rflP]
    refine WO_callP [] rfl rfl s5 (by simp) (by simp) ?_
    simp
    refine WO_callP [] rfl rfl s6 (by simp) (by simp) ?_
    simp
    exact fin_W (by simp)
end Go.Proofs.Ytjehncilahjmdaa
