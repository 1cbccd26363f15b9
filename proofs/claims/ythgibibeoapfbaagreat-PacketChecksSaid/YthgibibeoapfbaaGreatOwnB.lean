/-
  Codes, contracts and laws, part 2.
-/
import Derived.Test.YthgibibeoapfbaaGreatOwnA
import Derived.Test.YthgibibeoapfbaaGreatRows
set_option linter.unusedSimpArgs false
set_option linter.unnecessarySimpa false
set_option linter.unusedVariables false
set_option linter.unusedSectionVars false
namespace Go.Proofs.YthgibibeoapfbaaGreat
open Go Go.Fw
attribute [local irreducible] W WX WR WO WS WSr WH WHA WG WC FSpec
attribute [local simp] WS_at_map WSr_at_map WS_at_arr WSr_at_arr loadWP splice_full Int.natCast_inj arr_set arr_take
theorem fStart_spec : FSpec Tryz.prog 64 [] [] (.list 1 ⟨false, false, false⟩ (shaS.map (nV .u64))) [] := by
  refine FSpec.of_W fStart_low (by simp) ?_
  simp only [initEnv]
  simp
  exact fin_W (by simp [shaS, nV])
theorem fWords_spec : FSpec Tryz.prog 65 [] [] (.list 1 ⟨false, false, false⟩ (shaW.map (nV .u64))) [] := by
  refine FSpec.of_W fWords_low (by simp) ?_
  simp only [initEnv]
  simp
  exact fin_W (by simp [shaW, nV])
theorem shaS_len : shaS.length = 8 := rfl
theorem shaW_len : shaW.length = 80 := rfl
theorem zN_ok {m : Nat} (hm : OkM m) (L j : Nat) (hj : j ≤ zN (2 * m) (14 * (m / 8)) (L % (2 * m))) : (L + (1 + j)) % (2 * m) = 14 * (m / 8) ↔ j = zN (2 * m) (14 * (m / 8)) (L % (2 * m)) := by
  rcases hm with rfl | rfl
  · have h := zN_64 (L % 64) j (Nat.mod_lt _ (by decide)) hj
    rw [show 2 * 32 = 64 from rfl, show 14 * (32 / 8) = 56 from rfl] at *
    rw [← h]; omega
  · have h := zN_128 (L % 128) j (Nat.mod_lt _ (by decide)) hj
    rw [show 2 * 64 = 128 from rfl, show 14 * (64 / 8) = 112 from rfl] at *
    rw [← h]; omega
theorem tail_mod {m : Nat} (hm : OkM m) (L : Nat) : (L + (tailB m L).length) % (2 * m) = 0 := by
  have hz := zN_ok hm L (zN (2 * m) (14 * (m / 8)) (L % (2 * m))) (Nat.le_refl _)
  have h := hz.2 rfl
  rcases hm with rfl | rfl
  · simp [tailB, be8_len] at *; omega
  · simp [tailB, be8_len] at *; omega
set_option maxHeartbeats 2000000 in
theorem fSum3_spec {m : Nat} (F : Sha m) (hm : OkM m) (hF : OkF F) (b : List UInt8) (md : Md) (hb : b.length < 2 ^ 40) : FSpec Tryz.prog 33 [.agg (frm F), .list 1 md (b.map bv)] [] (.list 1 ⟨false, false, false⟩ ((dgst F b).map bv)) [] := by
  obtain ⟨sz, hsz⟩ : ∃ sz, sz = m / 8 := ⟨_, rfl⟩
  have hms : (m = 32 ∧ sz = 4) ∨ (m = 64 ∧ sz = 8) := by rcases hm with h | h <;> omega
  have e8 : (m : Int).tdiv 8 = (sz : Int) := by rw [hsz]; rfl
  obtain ⟨L, hL⟩ : ∃ L, L = b.length := ⟨_, rfl⟩
  obtain ⟨z, hz⟩ : ∃ z, z = zN (2 * m) (14 * (m / 8)) (L % (2 * m)) := ⟨_, rfl⟩
  have hzl : z < 2 * m := by rw [hz]; exact zN_lt _ _ _ (by omega)
  refine FSpec.of_W fSum3_low (by simp) ?_
  simp only [initEnv]
  simp [frm, e8, wrap64s (n := (sz : Int)) (by omega) (by omega), List.take_of_length_le]
  refine ⟨by omega, by omega, ?_⟩
  refine W_loop (X := { j : Nat // j ≤ z }) (fun j => [(1, .list 1 md (b.map bv)), (2, .ptr 0 0), (5, .int .i64 sz), (6, .slice 1 1 0 (L + 1 + j.1) none)])
    (fun j => [some ⟨frm F, 85, true⟩, some ⟨(b ++ 128 :: List.replicate j.1 0).map bv, 5, false⟩]) (fun j => z - j.1) ⟨0, by omega⟩ retPost_le ?_ ?_
  · refine cut_rw [0, 2] (by simp) rfl (by simp [hL]) ?_
    simp [frm]
  rintro ⟨j, hj⟩
  have hzj := zN_ok hm L j (by omega)
  rw [← hz, ← hsz] at hzj
  obtain ⟨w, hw⟩ : ∃ w, w = L + 1 + j := ⟨_, rfl⟩
  obtain ⟨B, hB⟩ : ∃ B, B = 16 * sz := ⟨_, rfl⟩
  obtain ⟨T, hT⟩ : ∃ T, T = 14 * sz := ⟨_, rfl⟩
  obtain ⟨v, hv⟩ : ∃ v, v = w % B := ⟨_, rfl⟩
  have e1 : IntKind.i64.wrap (16 * (sz : Int)) = (B : Int) := by rw [wrap64s (by omega) (by omega)]; omega
  have e2 : IntKind.i64.wrap (14 * (sz : Int)) = (T : Int) := by rw [wrap64s (by omega) (by omega)]; omega
  have e3 : (w : Int).tmod (B : Int) = (v : Int) := by rw [hv]; rfl
  have hvT : v = T ↔ j = z := by rw [← hzj, hv, hw, hB, hT, show 2 * m = 16 * sz by omega, Nat.add_assoc]
  simp only
  rw [← hw]
  simp [e1, e2, e3, show ¬ (B : Int) = 0 by omega, show ¬ B = 0 by omega]
  refine WC_ndec (fun h => ?_) (fun h => ?_)
  · have hjl : j < z := by omega
    simp
    refine ⟨by omega, ⟨j + 1, by omega⟩, by simp; omega, ?_⟩
    refine cut_rw [0, 2] (by simp) rfl (by simp; omega) ?_
    have hfl : (b.map bv ++ AV.int IntKind.u8 128 :: List.replicate j (AV.int IntKind.u8 0)).take w = b.map bv ++ AV.int IntKind.u8 128 :: List.replicate j (AV.int IntKind.u8 0) := List.take_of_length_le (by simp; omega)
    rw [hfl]
    simp [List.replicate_succ']
  have hjz : j = z := hvT.1 (by omega)
  obtain ⟨A0, hA0⟩ : ∃ A0, A0 = b ++ 128 :: List.replicate z 0 := ⟨_, rfl⟩
  have hA0l : A0.length = w := by rw [hA0]; simp; omega
  have hA0m : b.map bv ++ AV.int IntKind.u8 128 :: List.replicate z (AV.int IntKind.u8 0) = A0.map bv := by rw [hA0]; simp
  subst hjz
  simp [hA0m]
  refine W_loop (X := { i : Nat // i ≤ 2 * sz }) (fun i => [(1, .list 1 md (b.map bv)), (2, .ptr 0 0), (5, .int .i64 sz), (6, .slice 1 1 0 (A0.length + i.1) none), (7, .int .i64 i.1)])
    (fun i => [some ⟨frm F, 85, true⟩, some ⟨(A0 ++ lnB m L i.1).map bv, 5, false⟩]) (fun i => 2 * sz - i.1) ⟨0, by omega⟩ retPost_le ?_ ?_
  · exact cut_w (by simp [hA0l, lnB])
  rintro ⟨i, hi⟩
  have e4 : IntKind.i64.wrap (2 * (sz : Int)) = ((2 * sz : Nat) : Int) := by rw [wrap64s (by omega) (by omega)]; omega
  obtain ⟨S2, hS2⟩ : ∃ S2, S2 = 2 * sz := ⟨_, rfl⟩
  rw [← hS2] at e4
  simp only
  simp [e4]
  refine WC_dec (fun h => ?_) (fun h => ?_)
  · obtain ⟨at', hat⟩ : ∃ a, a = m / 4 - 1 - i := ⟨_, rfl⟩
    have e5 : IntKind.i64.wrap (IntKind.i64.wrap ((S2 : Int) - 1) - (i : Int)) = (at' : Int) := by
      rw [wrap64s (n := (S2 : Int) - 1) (by omega) (by omega), wrap64s (by omega) (by omega)]; omega
    have hls := lnB_succ m L i
    rw [← hat] at hls
    simp [e4, e5]
    refine WC_dec (fun g => ?_) (fun g => ?_)
    · have g' : at' < 8 := by omega
      obtain ⟨N8, hN8⟩ : ∃ N8, N8 = 8 * L := ⟨_, rfl⟩
      obtain ⟨a8, ha8⟩ : ∃ a8, a8 = 8 * at' := ⟨_, rfl⟩
      have e6 : IntKind.u64.wrap (IntKind.i64.wrap (8 * (L : Int))) = (N8 : Int) := by
        rw [wrap64s (by omega) (by omega), show 8 * (L : Int) = ((8 * L : Nat) : Int) by simp, wrapu64]; omega
      have e7 : IntKind.i64.wrap (8 * (at' : Int)) = (a8 : Int) := by rw [wrap64s (by omega) (by omega)]; omega
      have e9 : IntKind.u8.wrap (((N8 : Nat) : Int).fdiv (2 ^ min a8 64)) = ((UInt8.ofNat (N8 / 2 ^ a8)).toNat : Int) := by
        rw [show min a8 64 = a8 by omega, shr_nat, wrap8_u8]
      rw [if_pos g', ← hN8, ← ha8] at hls
      simp [← hL, e6, e7, e9, IntKind.bits, lnB_len]
      refine ⟨by omega, ⟨i + 1, by omega⟩, by simp; omega, ?_⟩
      refine cut_rw [0, 2] (by simp) rfl (by simp [Nat.add_assoc, wrap64s (n := (i : Int) + 1) (by omega) (by omega)]) ?_
      have hfl : (A0.map bv ++ (lnB m L i).map bv).take (A0.length + i) = A0.map bv ++ (lnB m L i).map bv := List.take_of_length_le (by simp [lnB_len])
      rw [hfl]
      simp [hls]
    · have g' : ¬ at' < 8 := by omega
      rw [if_neg g'] at hls
      simp [lnB_len]
      refine ⟨by omega, ⟨i + 1, by omega⟩, by simp; omega, ?_⟩
      refine cut_rw [0, 2] (by simp) rfl (by simp [Nat.add_assoc, wrap64s (n := (i : Int) + 1) (by omega) (by omega)]) ?_
      have hfl : (A0.map bv ++ (lnB m L i).map bv).take (A0.length + i) = A0.map bv ++ (lnB m L i).map bv := List.take_of_length_le (by simp [lnB_len])
      rw [hfl]
      simp [hls]
  have hi2 : i = 2 * sz := by omega
  obtain ⟨ALL, hALL⟩ : ∃ ALL, ALL = A0 ++ lnB m L (2 * sz) := ⟨_, rfl⟩
  have hAt : ALL = b ++ tailB m b.length := by
    rw [hALL, hA0, show 2 * sz = m / 4 by omega, lnB_all L hm, hz, hL]
    simp [tailB]
  have hAm : A0.map bv ++ (lnB m L (2 * sz)).map bv = ALL.map bv := by rw [hALL]; simp
  have hAl : ALL.length = A0.length + 2 * sz := by rw [hALL]; simp [lnB_len]
  have hmod := tail_mod hm b.length
  have hAl2 : ALL.length = b.length + (tailB m b.length).length := by rw [hAt]; simp
  subst hi2
  simp [hAm]
  refine W_loop (X := { i : Nat // i ≤ 8 }) (fun i => [(2, .ptr 0 0), (5, .int .i64 sz), (6, .slice 1 1 0 ALL.length none), (9, .slice 1 2 0 i.1 none), (10, .int .i64 i.1)])
    (fun i => [some ⟨frm F, 85, true⟩, some ⟨ALL.map bv, 5, false⟩, some ⟨(F.h0.ws.take i.1).map wV, 50, false⟩]) (fun i => 8 - i.1) ⟨0, by omega⟩ retPost_le ?_ ?_
  · refine cut_trans (cut_ghost 9 1 50 (by simp) rfl rfl) (cut_w ?_)
    simp [hAl]
  rintro ⟨i, hi⟩
  simp only
  simp
  refine WC_dec (fun h => ?_) (fun h => ?_)
  · have h8 : i < 8 := by omega
    simp
    refine WO_callP [] rfl rfl fStart_spec (by simp) (by simp) ?_
    have hS : ∃ x, shaS[i]? = some x := ⟨_, List.getElem?_eq_getElem (by rw [shaS_len]; exact h8)⟩
    obtain ⟨x, hx⟩ := hS
    have hk := hF.h0 i h8
    rw [List.getD_eq_getElem?_getD, hx, Option.getD_some] at hk
    have hcs := fConst3_spec F hm x
    rw [hk] at hcs
    simp [shaS_len, h8, hx, nV]
    refine WO_callP [] rfl rfl hcs (by simp) (by simp) ?_
    simp
    refine ⟨by omega, ⟨i + 1, by omega⟩, by simp; omega, ?_⟩
    refine cut_rw [0, 1, 3] (by simp) rfl (by simp [wrap64s (n := (i : Int) + 1) (by omega) (by omega)]) ?_
    rw [List.take_of_length_le (show ((F.h0.ws.map wV).take i).length ≤ i by simp; omega), ← wsm_take F.h0 h8]
    simp
  have : i = 8 := by omega
  subst this
  simp [wsm_all]
  refine WO_callP [] rfl rfl fWords_spec (by simp) (by simp) ?_
  simp
  obtain ⟨NB, hNB⟩ : ∃ NB, NB = ALL.length / (2 * m) := ⟨_, rfl⟩
  have hAN : ALL.length = 2 * m * NB := by
    have h1 := Nat.mod_add_div ALL.length (2 * m)
    rw [hAl2, hmod] at h1
    rw [hNB, hAl2]; omega
  refine W_loop (X := { n : Nat // n ≤ NB }) (fun n => [(2, .ptr 0 0), (5, .int .i64 sz), (6, .slice 1 1 0 ALL.length none), (9, .slice 1 2 0 8 none), (11, .list 1 ⟨false, false, false⟩ (shaW.map (nV .u64))), (12, .int .i64 (2 * m * n.1 : Nat))])
    (fun n => [some ⟨frm F, 85, true⟩, some ⟨ALL.map bv, 5, false⟩, some ⟨(runB F n.1 F.h0 ALL).ws.map wV, 50, false⟩]) (fun n => NB - n.1) ⟨0, by omega⟩ retPost_le ?_ ?_
  · exact cut_w (by simp [hAl, runB])
  rintro ⟨n, hn⟩
  obtain ⟨at0, hat0⟩ : ∃ a, a = 2 * m * n := ⟨_, rfl⟩
  simp only
  rw [← hat0]
  simp
  refine WC_dec (fun h => ?_) (fun h => ?_)
  · have hnN : n < NB := by
      refine Nat.lt_of_mul_lt_mul_left (a := 2 * m) ?_
      rw [← hat0, ← hAN]; omega
    have hfit : at0 + 2 * m ≤ ALL.length := by
      rw [hat0, hAN, ← Nat.mul_succ]; exact Nat.mul_le_mul_left _ hnN
    simp
    obtain ⟨bk, hbk⟩ : ∃ bk, bk = (ALL.drop at0).take (2 * m) := ⟨_, rfl⟩
    have hbkl : bk.length = 2 * m := by rw [hbk]; simp; omega
    have hR := hF.R
    refine W_loop (X := { i : Nat // i ≤ F.R }) (fun i => [(2, .ptr 0 0), (5, .int .i64 sz), (6, .slice 1 1 0 ALL.length none), (9, .slice 1 2 0 8 none), (11, .list 1 ⟨false, false, false⟩ (shaW.map (nV .u64))), (12, .int .i64 at0), (13, .slice 1 3 0 i.1 none), (14, .int .i64 i.1)])
      (fun i => [some ⟨frm F, 85, true⟩, some ⟨ALL.map bv, 5, false⟩, some ⟨(runB F n F.h0 ALL).ws.map wV, 50, false⟩, some ⟨(wL F bk i.1).map wV, 50, false⟩]) (fun i => F.R - i.1) ⟨0, by omega⟩ retPost_le ?_ ?_
    · refine cut_trans (cut_ghost 13 1 50 (by simp) rfl rfl) (cut_w ?_)
      simp [wL]
    rintro ⟨i, hi⟩
    have hwl := wL_length F bk i
    simp only
    simp [frm_R]
    refine WC_dec (fun g => ?_) (fun g => ?_)
    · have hiR : i < F.R := by omega
      simp
      have hwn : ∀ (x : BitVec m), wL F bk (i + 1) = wL F bk i ++ [x] → (wL F bk (i + 1)).map wV = (wL F bk i).map wV ++ [.int .u64 (wn x : Nat)] := by
        intro x hx; rw [hx]; simp [wV]
      have hwx : wL F bk (i + 1) = wL F bk i ++ [nextW F bk (wL F bk i) i] := rfl
      have hm64 : m ≤ 64 := by omega
      have hmd : 2 ^ m ∣ 2 ^ 64 := Nat.pow_dvd_pow 2 hm64
      have hp64 : 2 ^ m ≤ 2 ^ 64 := Nat.pow_le_pow_right (by decide) hm64
      obtain ⟨x16, a16⟩ : ∃ x, x = (wL F bk i).getD (i - 16) 0 := ⟨_, rfl⟩
      obtain ⟨x15, a15⟩ : ∃ x, x = (wL F bk i).getD (i - 15) 0 := ⟨_, rfl⟩
      obtain ⟨x7, a7⟩ : ∃ x, x = (wL F bk i).getD (i - 7) 0 := ⟨_, rfl⟩
      obtain ⟨x2, a2⟩ : ∃ x, x = (wL F bk i).getD (i - 2) 0 := ⟨_, rfl⟩
      obtain ⟨X, hX⟩ : ∃ X, X = if i < 16 then beN ((bk.drop (sz * i)).take sz) else (((wn x16 + wn (smallT F.s0 x15)) % 2 ^ 64 + wn x7) % 2 ^ 64 + wn (smallT F.s1 x2)) % 2 ^ 64 := ⟨_, rfl⟩
      have hXb : ∀ k, beN ((bk.drop (sz * i)).take k) < 256 ^ k := fun k => Nat.lt_of_lt_of_le (beN_lt _) (Nat.pow_le_pow_right (by decide) (by simp; omega))
      have h256 : 256 ^ sz = 2 ^ m := by rcases hms with ⟨h1, h2⟩ | ⟨h1, h2⟩ <;> rw [h1, h2]
      have hXl : X < 2 ^ 64 := by
        rw [hX]; split
        · have := hXb sz; omega
        · exact Nat.mod_lt _ (by decide)
      have hXm : X % 2 ^ m = wn (nextW F bk (wL F bk i) i) := by
        rw [hX]; simp only [nextW, ← a16, ← a15, ← a7, ← a2, ← hsz]
        split
        · simp only [wn, BitVec.toNat_ofNat]
        · rw [wn_add, wn_add, wn_add, Nat.mod_mod_of_dvd _ hmd, Nat.add_mod, Nat.mod_mod_of_dvd _ hmd, Nat.add_mod ((wn x16 + wn (smallT F.s0 x15)) % 2 ^ 64), Nat.mod_mod_of_dvd _ hmd]
          simp only [Nat.add_mod, Nat.mod_mod]
      refine WC_joinQ [(2, .ptr 0 0), (5, .int .i64 sz), (6, .slice 1 1 0 ALL.length none), (9, .slice 1 2 0 8 none), (11, .list 1 ⟨false, false, false⟩ (shaW.map (nV .u64))), (12, .int .i64 at0), (13, .slice 1 3 0 i none), (14, .int .i64 i), (15, .int .u64 (X : Nat))]
        [some ⟨frm F, 85, true⟩, some ⟨ALL.map bv, 5, false⟩, some ⟨(runB F n F.h0 ALL).ws.map wV, 50, false⟩, some ⟨(wL F bk i).map wV, 50, false⟩] ?_ ?_
      · have hcut := fCut3_spec F hm X hXl
        rw [hXm] at hcut
        simp
        refine WO_callP [] rfl rfl hcut (by simp) (by simp) ?_
        simp [hwl]
        refine ⟨by omega, ⟨i + 1, by omega⟩, by simp; omega, ?_⟩
        refine cut_rw [0, 1, 2, 4] (by simp) rfl (by simp [wrap64s (n := (i : Int) + 1) (by omega) (by omega)]) ?_
        rw [List.take_of_length_le (show ((wL F bk i).map wV).length ≤ i by simp [hwl]), ← hwn _ hwx]
        simp
      intro k' hk'
      refine WC_dec (fun h16 => ?_) (fun h16 => ?_)
      · have h16' : i < 16 := by omega
        rw [if_pos h16'] at hX
        simp
        refine W_loop (X := { k : Nat // k ≤ sz }) (fun k => [(2, .ptr 0 0), (5, .int .i64 sz), (6, .slice 1 1 0 ALL.length none), (9, .slice 1 2 0 8 none), (11, .list 1 ⟨false, false, false⟩ (shaW.map (nV .u64))), (12, .int .i64 at0), (13, .slice 1 3 0 i none), (14, .int .i64 i), (15, .int .u64 (beN ((bk.drop (sz * i)).take k.1) : Nat)), (16, .int .i64 k.1)])
          (fun _ => [some ⟨frm F, 85, true⟩, some ⟨ALL.map bv, 5, false⟩, some ⟨(runB F n F.h0 ALL).ws.map wV, 50, false⟩, some ⟨(wL F bk i).map wV, 50, false⟩]) (fun k => sz - k.1) ⟨0, by omega⟩ retPost_le ?_ ?_
        · exact cut_w (by simp [beN])
        rintro ⟨k, hk⟩
        simp only
        simp
        refine WC_dec (fun u => ?_) (fun u => ?_)
        · obtain ⟨p, hp⟩ : ∃ p, p = i * sz := ⟨_, rfl⟩
          have hp2 : p ≤ 15 * sz := by rw [hp]; exact Nat.mul_le_mul_right _ (by omega)
          obtain ⟨q, hq⟩ : ∃ q, q = at0 + p + k := ⟨_, rfl⟩
          have e1 : IntKind.i64.wrap ((i : Int) * (sz : Int)) = (p : Int) := by
            rw [← Int.natCast_mul, ← hp, wrap64s (by omega) (by omega)]
          have e2 : IntKind.i64.wrap ((at0 : Int) + (p : Int)) = ((at0 + p : Nat) : Int) := by rw [wrap64s (by omega) (by omega)]; omega
          have e3 : IntKind.i64.wrap (((at0 + p : Nat) : Int) + (k : Int)) = (q : Int) := by rw [wrap64s (by omega) (by omega)]; omega
          obtain ⟨ap, hap⟩ : ∃ ap, ap = at0 + p := ⟨_, rfl⟩
          rw [← hap] at e2 e3
          have hqA : q < ALL.length := by omega
          have gq : ALL[q]? = some ALL[q] := by simp
          have hs : beN ((bk.drop (sz * i)).take (k + 1)) = beN ((bk.drop (sz * i)).take k) * 256 + ALL[q].toNat := by
            have hpi : sz * i = p := by rw [hp, Nat.mul_comm]
            rw [List.take_succ_eq_append_getElem (by simp; omega), beN_snoc, List.getElem_drop]
            congr 2
            simp only [hbk, List.getElem_take, List.getElem_drop]
            congr 1
            omega
          have hx := ALL[q].toNat_lt
          have hv := hXb k
          have hv2 : 256 ^ (k + 1) ≤ 2 ^ 64 := by rw [← Nat.pow_mul 2 8 (k + 1)]; exact Nat.pow_le_pow_right (by decide) (by omega)
          rw [Nat.pow_succ] at hv2
          have ev : IntKind.u64.wrap (IntKind.u64.wrap ((beN ((bk.drop (sz * i)).take k) : Nat) * 256) + (ALL[q].toNat : Nat)) = (beN ((bk.drop (sz * i)).take (k + 1)) : Nat) := by
            rw [hs]
            generalize beN ((bk.drop (sz * i)).take k) = y at *
            rw [show ((y : Int) * 256) = ((y * 256 : Nat) : Int) by simp, wrapu64, Nat.mod_eq_of_lt (by omega), ← Int.natCast_add, wrapu64, Nat.mod_eq_of_lt (by omega)]
          simp [e1, e2, e3, gq, ev, wrap_b64]
          refine ⟨hqA, ⟨k + 1, by omega⟩, by simp; omega, ?_⟩
          exact cut_w (by simp [wrap64s (n := (k : Int) + 1) (by omega) (by omega)])
        · have : k = sz := by omega
          subst this
          simp
          rw [hX] at hk'
          exact hk'
      · have h16' : ¬ i < 16 := by omega
        rw [if_neg h16'] at hX
        obtain ⟨j16, h16e⟩ : ∃ j, j = i - 16 := ⟨_, rfl⟩
        obtain ⟨j15, h15e⟩ : ∃ j, j = i - 15 := ⟨_, rfl⟩
        obtain ⟨j7, h7e⟩ : ∃ j, j = i - 7 := ⟨_, rfl⟩
        obtain ⟨j2, h2e⟩ : ∃ j, j = i - 2 := ⟨_, rfl⟩
        have f16 : IntKind.i64.wrap ((i : Int) - 16) = (j16 : Int) := by rw [wrap64s (by omega) (by omega)]; omega
        have f15 : IntKind.i64.wrap ((i : Int) - 15) = (j15 : Int) := by rw [wrap64s (by omega) (by omega)]; omega
        have f7 : IntKind.i64.wrap ((i : Int) - 7) = (j7 : Int) := by rw [wrap64s (by omega) (by omega)]; omega
        have f2 : IntKind.i64.wrap ((i : Int) - 2) = (j2 : Int) := by rw [wrap64s (by omega) (by omega)]; omega
        have get : ∀ (j : Nat) (x : BitVec m), j < i → x = (wL F bk i).getD j 0 → (wL F bk i)[j]? = some x := by
          intro j x hj hx
          rw [hx, List.getD_eq_getElem?_getD, List.getElem?_eq_getElem (by omega)]; rfl
        have b16 := get j16 x16 (by omega) (by rw [h16e]; exact a16)
        have b15 := get j15 x15 (by omega) (by rw [h15e]; exact a15)
        have b7 := get j7 x7 (by omega) (by rw [h7e]; exact a7)
        have b2 := get j2 x2 (by omega) (by rw [h2e]; exact a2)
        have sm0 := fSmall3_spec F hm x15 F.s0 hF.s0.1 hF.s0.2.1 hF.s0.2.2
        have sm1 := fSmall3_spec F hm x2 F.s1 hF.s1.1 hF.s1.2.1 hF.s1.2.2
        have au : ∀ a c : Nat, IntKind.u64.wrap ((a : Nat) + (c : Nat)) = ((a + c) % 2 ^ 64 : Nat) := fun a c => by rw [← Int.natCast_add, wrapu64]
        have s1 := au (wn x16) (wn (smallT F.s0 x15))
        obtain ⟨y1, hy1⟩ : ∃ y, y = (wn x16 + wn (smallT F.s0 x15)) % 2 ^ 64 := ⟨_, rfl⟩
        rw [← hy1] at s1 hX
        have s2 := au y1 (wn x7)
        obtain ⟨y2, hy2⟩ : ∃ y, y = (y1 + wn x7) % 2 ^ 64 := ⟨_, rfl⟩
        rw [← hy2] at s2 hX
        have s3 := au y2 (wn (smallT F.s1 x2))
        rw [← hX] at s3
        simp [f16, f15, f7, f2, b16, b15, b7, b2, hwl, wV, frm_s0, frm_s1]
        refine ⟨by omega, by omega, by omega, by omega, ?_⟩
        refine WO_callP [] rfl rfl sm0 (by simp [tV]) (by simp [b16, b7, b2, wV, frm_s1]) ?_
        simp [s1, s2]
        refine WO_callP [] rfl rfl sm1 (by simp [tV]) (by simp [b16, b7, b2, wV, frm_s1]) ?_
        simp [s3]
        exact hk'
    have hiR : i = F.R := by omega
    subst hiR
    obtain ⟨hs, hhs⟩ : ∃ hs, hs = runB F n F.h0 ALL := ⟨_, rfl⟩
    have hcomp : runB F (n + 1) F.h0 ALL = hs.add (rnds F (wL F bk F.R) hs F.R) := by rw [runB_succ, ← hat0, ← hbk, ← hhs]; rfl
    rw [← hhs]
    simp [wsm_all]
    refine W_loop (X := { i : Nat // i ≤ F.R }) (fun i => [(2, .ptr 0 0), (5, .int .i64 sz), (6, .slice 1 1 0 ALL.length none), (9, .slice 1 2 0 8 none), (11, .list 1 ⟨false, false, false⟩ (shaW.map (nV .u64))), (12, .int .i64 at0), (13, .slice 1 3 0 F.R none), (17, .list 1 ⟨false, false, false⟩ ((rnds F (wL F bk F.R) hs i.1).ws.map wV)), (18, .int .i64 i.1)])
      (fun i => [some ⟨frm F, 85, true⟩, some ⟨ALL.map bv, 5, false⟩, some ⟨hs.ws.map wV, 50, false⟩, some ⟨(wL F bk F.R).map wV, 50, false⟩]) (fun i => F.R - i.1) ⟨0, by omega⟩ retPost_le ?_ ?_
    · refine cut_trans (cut_frz 4 rfl) (cut_w ?_)
      simp [rnds, wsm_all]
    rintro ⟨i, hi⟩
    simp only
    simp [frm_R]
    refine WC_dec (fun g => ?_) (fun g => ?_)
    · have hiR : i < F.R := by omega
      have hm64 : m ≤ 64 := by omega
      obtain ⟨W, hW⟩ : ∃ W, W = wL F bk F.R := ⟨_, rfl⟩
      rw [← hW] at hwl hcomp ⊢
      obtain ⟨w, hw'⟩ : ∃ w, w = W.getD i 0 := ⟨_, rfl⟩
      have gw : W[i]? = some w := by rw [hw', List.getD_eq_getElem?_getD, List.getElem?_eq_getElem (by omega)]; rfl
      have hk80 : ∃ x, shaW[i]? = some x := ⟨_, List.getElem?_eq_getElem (by rw [shaW_len]; omega)⟩
      obtain ⟨kv, hkv⟩ := hk80
      have hkc := hF.k i hiR
      rw [List.getD_eq_getElem?_getD, hkv, Option.getD_some] at hkc
      have hcs := fConst3_spec F hm kv
      rw [hkc] at hcs
      obtain ⟨kk, hkk⟩ : ∃ kk, kk = F.k i := ⟨_, rfl⟩
      have hr : rnds F W hs (i + 1) = rnd F (F.k i) (W.getD i 0) (rnds F W hs i) := rfl
      rw [← hkk] at hcs hr
      rw [← hw'] at hr
      obtain ⟨⟨sa, sb, sc, sd, se, sf, sg, sh⟩, hS⟩ : ∃ st, st = rnds F W hs i := ⟨_, rfl⟩
      rw [← hS] at hr ⊢
      have andm : ∀ x y : BitVec m, bitI .and .u64 (wn x : Nat) (wn y : Nat) = (wn (x &&& y) : Nat) := fun x y => wx_and rfl hm64 x y
      have orm : ∀ x y : BitVec m, bitI .or .u64 (wn x : Nat) (wn y : Nat) = (wn (x ||| y) : Nat) := fun x y => wx_or rfl hm64 x y
      have au : ∀ a c : Nat, IntKind.u64.wrap ((a : Nat) + (c : Nat)) = ((a + c) % 2 ^ 64 : Nat) := fun a c => by rw [← Int.natCast_add, wrapu64]
      have hnr := not_raw se hm64
      obtain ⟨nse, hnse⟩ : ∃ v, v = (2 ^ 64 - 1) ^^^ wn se := ⟨_, rfl⟩
      have hcn := fCut3_spec F hm nse (by rw [hnse]; exact Nat.xor_lt_two_pow (by decide) (Nat.lt_of_lt_of_le (wn_lt se) (Nat.pow_le_pow_right (by decide) hm64)))
      rw [hnse, not_val hm64] at hcn
      rw [← hnse] at hcn hnr
      simp [St8.ws, wV, andm, hnr]
      refine WO_callP [] rfl rfl hcn (by simp) (by simp) ?_
      simp [andm, orm, ch_or, mj_or, frm_E, hkv, gw, nV, wV]
      obtain ⟨cE, hcE⟩ : ∃ x, x = bigT F.E se := ⟨_, rfl⟩
      obtain ⟨cA, hcA⟩ : ∃ x, x = bigT F.A sa := ⟨_, rfl⟩
      obtain ⟨ch, hch⟩ : ∃ x, x = (se &&& sf) ^^^ (~~~se &&& sg) := ⟨_, rfl⟩
      obtain ⟨mj, hmj⟩ : ∃ x, x = (sa &&& sb) ^^^ (sa &&& sc) ^^^ (sb &&& sc) := ⟨_, rfl⟩
      have hr2 : rnds F W hs (i + 1) = ⟨sh + cE + ch + kk + w + cA + mj, sa, sb, sc, sd + (sh + cE + ch + kk + w), se, sf, sg⟩ := by rw [hr, hcE, hcA, hch, hmj]; rfl
      have bE := fBig3_spec F hm se F.E hF.E.1 hF.E.2.1 hF.E.2.2
      have bA := fBig3_spec F hm sa F.A hF.A.1 hF.A.2.1 hF.A.2.2
      rw [← hcE] at bE
      rw [← hcA] at bA
      rw [← hch, ← hmj]
      have s1 := au (wn sh) (wn cE)
      obtain ⟨y1, hy1⟩ : ∃ y, y = (wn sh + wn cE) % 2 ^ 64 := ⟨_, rfl⟩
      rw [← hy1] at s1
      have s2 := au y1 (wn ch)
      obtain ⟨y2, hy2⟩ : ∃ y, y = (y1 + wn ch) % 2 ^ 64 := ⟨_, rfl⟩
      rw [← hy2] at s2
      have s3 := au y2 (wn kk)
      obtain ⟨y3, hy3⟩ : ∃ y, y = (y2 + wn kk) % 2 ^ 64 := ⟨_, rfl⟩
      rw [← hy3] at s3
      have s4 := au y3 (wn w)
      obtain ⟨y4, hy4⟩ : ∃ y, y = (y3 + wn w) % 2 ^ 64 := ⟨_, rfl⟩
      rw [← hy4] at s4
      have s5 := au (wn cA) (wn mj)
      obtain ⟨y5, hy5⟩ : ∃ y, y = (wn cA + wn mj) % 2 ^ 64 := ⟨_, rfl⟩
      rw [← hy5] at s5
      have s6 := au y4 y5
      obtain ⟨y6, hy6⟩ : ∃ y, y = (y4 + y5) % 2 ^ 64 := ⟨_, rfl⟩
      rw [← hy6] at s6
      have s7 := au (wn sd) y4
      obtain ⟨y7, hy7⟩ : ∃ y, y = (wn sd + y4) % 2 ^ 64 := ⟨_, rfl⟩
      rw [← hy7] at s7
      have c6 := fCut3_spec F hm y6 (by rw [hy6]; exact Nat.mod_lt _ (by decide))
      have c7 := fCut3_spec F hm y7 (by rw [hy7]; exact Nat.mod_lt _ (by decide))
      have v6 : y6 % 2 ^ m = wn (sh + cE + ch + kk + w + cA + mj) := by
        rw [hy6, hy5, hy4, hy3, hy2, hy1, sum_cut hm, wn_add, wn_add, wn_add, wn_add, wn_add, wn_add]
      have v7 : y7 % 2 ^ m = wn (sd + (sh + cE + ch + kk + w)) := by
        rw [hy7, hy4, hy3, hy2, hy1, sum_cut2 hm, wn_add, wn_add, wn_add, wn_add, wn_add]
      rw [v6] at c6
      rw [v7] at c7
      refine ⟨by rw [shaW_len]; omega, by omega, by omega, ?_⟩
      refine WO_callP [] rfl rfl bE (by simp [tV]) (by simp [hkv, gw, nV, wV]) ?_
      simp [s1, s2]
      refine WO_callP [] rfl rfl hcs (by simp) (by simp [hkv, gw, nV, wV]) ?_
      simp [s3, s4, frm_A]
      refine WO_callP [] rfl rfl bA (by simp [tV]) (by simp) ?_
      simp [s5, s6]
      refine WO_callP [] rfl rfl c6 (by simp) (by simp) ?_
      simp [s7]
      refine WO_callP [] rfl rfl c7 (by simp) (by simp) ?_
      simp
      refine ⟨⟨i + 1, by omega⟩, by simp; omega, ?_⟩
      exact cut_w (by simp [hr2, St8.ws, wV, wrap64s (n := (i : Int) + 1) (by omega) (by omega)])
    have hiR : i = F.R := by omega
    subst hiR
    obtain ⟨st, hst⟩ : ∃ st, st = rnds F (wL F bk F.R) hs F.R := ⟨_, rfl⟩
    rw [← hst] at hcomp ⊢
    simp
    refine W_loop (X := { i : Nat // i ≤ 8 }) (fun i => [(2, .ptr 0 0), (5, .int .i64 sz), (6, .slice 1 1 0 ALL.length none), (9, .slice 1 2 0 8 none), (11, .list 1 ⟨false, false, false⟩ (shaW.map (nV .u64))), (12, .int .i64 at0), (17, .list 1 ⟨false, false, false⟩ (st.ws.map wV)), (23, .int .i64 i.1)])
      (fun i => [some ⟨frm F, 85, true⟩, some ⟨ALL.map bv, 5, false⟩, some ⟨(hX i.1 hs st).map wV, 50, false⟩]) (fun i => 8 - i.1) ⟨0, by omega⟩ retPost_le ?_ ?_
    · exact cut_w (by simp [hX_zero])
    rintro ⟨i, hi⟩
    simp only
    simp
    refine WC_dec (fun g => ?_) (fun g => ?_)
    · have h8 : i < 8 := by omega
      have g1 := hX_at hs st h8
      have g2 := ws_at st h8
      have g3 := hX_set hs st h8
      have au : IntKind.u64.wrap ((wn (hs.at i) : Nat) + (wn (st.at i) : Nat)) = ((wn (hs.at i) + wn (st.at i)) % 2 ^ 64 : Nat) := by rw [← Int.natCast_add, wrapu64]
      obtain ⟨y, hy⟩ : ∃ y, y = (wn (hs.at i) + wn (st.at i)) % 2 ^ 64 := ⟨_, rfl⟩
      rw [← hy] at au
      have hc := fCut3_spec F hm y (by rw [hy]; exact Nat.mod_lt _ (by decide))
      rw [hy, sum_cut3 hm, ← wn_add] at hc
      rw [← hy] at hc
      obtain ⟨u, hu⟩ : ∃ u, u = wn (hs.at i + st.at i) := ⟨_, rfl⟩
      rw [← hu] at hc g3
      obtain ⟨p1, hp1⟩ : ∃ p1, p1 = hs.at i := ⟨_, rfl⟩
      obtain ⟨p2, hp2⟩ : ∃ p2, p2 = st.at i := ⟨_, rfl⟩
      rw [← hp1] at g1 au
      rw [← hp2] at g2 au
      have g1' : ∀ (h : i < (hX i hs st).length), (hX i hs st)[i] = p1 := fun h => by rw [List.getElem?_eq_getElem h] at g1; exact Option.some.inj g1
      have g2' : ∀ (h : i < st.ws.length), st.ws[i] = p2 := fun h => by rw [List.getElem?_eq_getElem h] at g2; exact Option.some.inj g2
      simp [g1', g2', wV, au, h8, g]
      refine WO_callP [] rfl rfl hc (by simp) (by simp) ?_
      simp [g3, h8, g]
      refine ⟨by omega, ⟨i + 1, by omega⟩, by simp; omega, ?_⟩
      exact cut_w (by simp [wrap64s (n := (i : Int) + 1) (by omega) (by omega)])
    have hi8 : i = 8 := by omega
    subst hi8
    have eAt : IntKind.i64.wrap ((at0 : Int) + IntKind.i64.wrap (16 * (sz : Int))) = ((2 * m * (n + 1) : Nat) : Int) := by
      rw [e1, Nat.mul_succ, ← hat0, wrap64s (by omega) (by omega)]; omega
    simp [hX_eight]
    refine ⟨⟨n + 1, by omega⟩, by simp; omega, ?_⟩
    simp at eAt
    exact cut_w (by simp [hcomp, eAt])
  have hnN : n = NB := by
    have h1 : ALL.length ≤ at0 := by omega
    rw [hAN, hat0] at h1
    have h2 := Nat.le_of_mul_le_mul_left h1 (by omega)
    omega
  subst hnN
  have hdg : dgst F b = dgB (runB F n F.h0 ALL) := by
    rw [dgst, hst, ← hAt, ← hNB]
  obtain ⟨S, hS⟩ : ∃ S, S = runB F n F.h0 ALL := ⟨_, rfl⟩
  rw [← hS] at hdg ⊢
  rw [hdg]
  simp
  refine W_loop (X := { i : Nat // i ≤ 8 }) (fun i => [(5, .int .i64 sz), (9, .slice 1 0 0 8 none), (24, .slice 1 1 0 (sz * i.1) none), (25, .int .i64 i.1)])
    (fun i => [some ⟨S.ws.map wV, 50, false⟩, some ⟨((dgB S).take (sz * i.1)).map bv, 5, false⟩]) (fun i => 8 - i.1) ⟨0, by omega⟩ retPost_le ?_ ?_
  · refine cut_trans (cut_ghost 24 1 5 (by simp) rfl rfl) ?_
    refine cut_rw [2, 3] (by simp) rfl (by simp) ?_
    simp
  rintro ⟨i, hi⟩
  simp only
  simp
  refine WC_dec (fun g => ?_) (fun g => ?_)
  · have h8 : i < 8 := by omega
    simp
    refine W_loop (X := { k : Nat // k ≤ sz }) (fun k => [(5, .int .i64 sz), (9, .slice 1 0 0 8 none), (24, .slice 1 1 0 (sz * i + k.1) none), (25, .int .i64 i), (26, .int .i64 ((sz : Int) - 1 - (k.1 : Int)))])
      (fun k => [some ⟨S.ws.map wV, 50, false⟩, some ⟨((dgB S).take (sz * i + k.1)).map bv, 5, false⟩]) (fun k => sz - k.1) ⟨0, by omega⟩ retPost_le ?_ ?_
    · exact cut_w (by simp [wrap64s (n := (sz : Int) - 1) (by omega) (by omega)])
    rintro ⟨k, hk⟩
    simp only
    simp
    refine WC_dec (fun u => ?_) (fun u => ?_)
    · have hks : k < sz := by omega
      obtain ⟨nn, hnn⟩ : ∃ nn, nn = sz - 1 - k := ⟨_, rfl⟩
      have f1 : (sz : Int) - 1 - (k : Int) = (nn : Int) := by omega
      obtain ⟨n8, hn8⟩ : ∃ n8, n8 = 8 * nn := ⟨_, rfl⟩
      have f2 : IntKind.i64.wrap (8 * (nn : Int)) = (n8 : Int) := by rw [wrap64s (by omega) (by omega)]; omega
      obtain ⟨p, hp⟩ : ∃ p, p = sz * i + k := ⟨_, rfl⟩
      have hpd : p / sz = i := by rw [hp, Nat.mul_add_div (by omega), Nat.div_eq_of_lt hks, Nat.add_zero]
      have hpm : p % sz = k := by rw [hp, Nat.mul_add_mod, Nat.mod_eq_of_lt hks]
      have hpl : p < m := by
        have : sz * i ≤ sz * 7 := Nat.mul_le_mul_left _ (by omega)
        omega
      have f3 : IntKind.u8.wrap (((wn (S.at i) : Nat) : Int).fdiv (2 ^ min n8 64)) = ((UInt8.ofNat (dgN S p)).toNat : Int) := by
        rw [show min n8 64 = n8 by omega, shr_nat, wrap8_u8]
        simp only [dgN, ← hsz, hpd, hpm, show m - 8 - 8 * k = n8 by omega]
        rw [UInt8.toNat_ofNat', UInt8.toNat_ofNat', Nat.mod_mod]
      have ht := dgB_take S hpl
      have g2 := ws_at S h8
      obtain ⟨p2, hp2⟩ : ∃ p2, p2 = S.at i := ⟨_, rfl⟩
      rw [← hp2] at g2 f3
      have g2' : ∀ (h : i < S.ws.length), S.ws[i] = p2 := fun h => by rw [List.getElem?_eq_getElem h] at g2; exact Option.some.inj g2
      have hdl : (dgB S).length = m := by simp [dgB]
      rw [← hp]
      simp [f1, f2, g2', wV, h8, f3, IntKind.bits]
      have htm := congrArg (List.map bv) ht
      simp at htm
      have f4 : IntKind.i64.wrap ((nn : Int) - 1) = (sz : Int) - 1 - ((k : Int) + 1) := by rw [wrap64s (by omega) (by omega)]; omega
      refine ⟨g, by rw [hdl]; omega, ⟨k + 1, by omega⟩, by simp; omega, ?_⟩
      refine cut_rw [0, 2] (by simp) rfl (by simp [f4, hp, Nat.add_assoc]) ?_
      rw [List.take_take, Nat.min_self, ← htm]
      simp [hp, Nat.add_assoc]
    · have : k = sz := by omega
      subst this
      simp
      refine ⟨⟨i + 1, by omega⟩, by simp; omega, ?_⟩
      exact cut_w (by simp [Nat.mul_succ, wrap64s (n := (i : Int) + 1) (by omega) (by omega)])
  have hi8 : i = 8 := by omega
  subst hi8
  have hdl : (dgB S).length = m := by simp [dgB]
  simp
  rw [List.take_of_length_le (by simp [hdl]; omega)]
  exact fin_sl 1 rfl (by simp [hdl]; omega) (by simp) (by simp)
end Go.Proofs.YthgibibeoapfbaaGreat
namespace Go.Proofs.YthgibibeoapfbaaGreat
open Go Go.Fw
attribute [local irreducible] W WX WR WO WS WSr WH WHA WG WC FSpec
attribute [local simp] WS_at_map WSr_at_map WS_at_q4 WSr_at_q4 WS_at_mx mx_set' WS_at_arr WSr_at_arr loadWP splice_full Int.natCast_inj
theorem fL_spec : FSpec Tryz.prog 45 [] [] (.agg (q4 Lq)) [] := by
  refine FSpec.of_W fL_low (by simp) ?_
  simp only [initEnv]
  simp
  exact fin_W (by simp [q4_Lq])
theorem fBelow2_spec (a b : Nat) (ha : a < 2 ^ 256) (hb : b < 2 ^ 256) : FSpec Tryz.prog 44 [.agg (q4 a), .agg (q4 b)] [] (.bool (decide (a < b))) [] := by
  refine FSpec.of_W fBelow2_low (by simp) ?_
  simp only [initEnv]
  simp
  refine W_loop (X := { i : Nat // i ≤ 4 ∧ a / 2 ^ (64 * i) = b / 2 ^ (64 * i) }) (fun i => [(2, .ptr 0 0), (3, .ptr 1 0), (5, .int .i64 ((i.1 : Int) - 1))]) (fun _ => [some ⟨q4 a, 51, true⟩, some ⟨q4 b, 51, true⟩]) (fun i => i.1) ⟨4, by omega, by omega⟩ retPost_le ?_ ?_
  · exact cut_w (by simp)
  · rintro ⟨i, hi, he⟩
    obtain _ | k := i
    · simp
      refine fin_W ?_
      simp at he
      simp [he]
    · have h4 : k < 4 := by omega
      simp [h4]
      refine ⟨by omega, ?_⟩
      refine WC_ndec (fun h => ?_) (fun h => ?_)
      · simp [h4]
        refine ⟨by omega, ?_⟩
        refine fin_W ?_
        simp
        rw [wd_cmp he (by omega)]
      · simp
        refine ⟨⟨k, by omega, wd_eq he (by omega)⟩, by simp, ?_⟩
        exact cut_w (by simp [wrap64s (n := (k : Int) - 1) (by omega) (by omega)])
theorem fBelow_spec (a : Nat) (ha : a < 2 ^ 256) : FSpec Tryz.prog 61 [.agg (q4 a)] [] (.bool (decide (a < Lq))) [] := by
  refine FSpec.of_W fBelow_low (by simp) ?_
  simp only [initEnv]
  simp
  refine WO_callP [] rfl rfl fL_spec (by simp) (by simp) ?_
  simp
  refine WO_callP [] rfl rfl (fBelow2_spec a Lq ha (by decide)) (by simp) (by simp) ?_
  simp
  exact fin_W (by simp)
theorem sub_wrap (a b i : Nat) (h : b ≤ a) : IntKind.u64.wrap (IntKind.u64.wrap ((wd a i : Int) - (wd b i : Int)) - (bor a b i : Int)) = (wd (a - b) i : Nat) := by
  rw [← wd_sub a b i h]
  have := wd_lt a i
  have := wd_lt b i
  have := bor_le a b i
  unfold IntKind.wrap
  simp [IntKind.signed, IntKind.bits]
  omega
theorem fRLess_spec (a b : Nat) (h : b ≤ a) : FSpec Tryz.prog 46 [.agg (q4 a), .agg (q4 b)] [] (.agg (q4 (a - b))) [] := by
  refine FSpec.of_W fRLess_low (by simp) ?_
  simp only [initEnv]
  simp
  refine W_loop (X := { i : Nat // i ≤ 4 }) (fun i => [(2, .ptr 0 0), (3, .ptr 1 0), (4, .ptr 2 0), (5, .int .u64 (bor a b i.1 : Nat)), (6, .int .i64 i.1)]) (fun i => [some ⟨mx i.1 (a - b) a, 51, true⟩, some ⟨q4 b, 51, true⟩, some ⟨q4 0, 51, true⟩]) (fun i => 4 - i.1) ⟨0, by omega⟩ retPost_le ?_ ?_
  · exact cut_w (by simp [bor_zero, mx_zero, q4_zero])
  · rintro ⟨i, hi⟩
    simp only
    simp
    refine WC_dec (fun hl => ?_) (fun hl => ?_)
    · have h4 : i < 4 := by omega
      have hb := bor_succ a b i
      have hle := bor_le a b i
      have hw := sub_wrap a b i h
      by_cases h1 : wd a i < wd b i
      · rw [if_pos (by omega)] at hb
        simp [h4, hl, h1, hw]
        refine ⟨by omega, ⟨i + 1, by omega⟩, by simp; omega, ?_⟩
        exact cut_w (by simp [← hb, wrap64s (n := (i : Int) + 1) (by omega) (by omega)])
      · by_cases h2 : wd a i = wd b i
        · by_cases h3 : bor a b i = 1
          · have h3' : ((bor a b i : Nat) : Int) = 1 := by omega
            rw [if_pos (by omega)] at hb
            rw [h2] at hw
            simp only [Int.sub_self, h3'] at hw
            simp [h4, hl, h1, h2, h3, h3', hw]
            refine ⟨by omega, ⟨i + 1, by omega⟩, by simp; omega, ?_⟩
            exact cut_w (by simp [← hb, wrap64s (n := (i : Int) + 1) (by omega) (by omega)])
          · have h3' : ¬ ((bor a b i : Nat) : Int) = 1 := by omega
            rw [if_neg (by omega)] at hb
            rw [h2] at hw
            simp only [Int.sub_self, h3'] at hw
            simp [h4, hl, h1, h2, h3, h3', hw]
            refine ⟨by omega, ⟨i + 1, by omega⟩, by simp; omega, ?_⟩
            exact cut_w (by simp [← hb, wrap64s (n := (i : Int) + 1) (by omega) (by omega)])
        · rw [if_neg (by omega)] at hb
          simp [h4, hl, h1, h2, hw]
          refine ⟨by omega, ⟨i + 1, by omega⟩, by simp; omega, ?_⟩
          exact cut_w (by simp [← hb, wrap64s (n := (i : Int) + 1) (by omega) (by omega)])
    · have h4 : i = 4 := by omega
      subst h4
      simp [mx_four]
      exact fin_W (by simp)
theorem dbl_wrap (n bit i : Nat) : IntKind.u64.wrap (IntKind.u64.wrap ((wd n i : Int) * 2) + (dca n bit i : Int)) = (wd (2 * n + bit) i : Nat) := by
  rw [wd_dbl]
  unfold IntKind.wrap
  simp [IntKind.signed, IntKind.bits]
theorem fDouble_spec (n : Nat) (bit : Nat) (hb : bit ≤ 1) (hn : 2 * n + bit < 2 ^ 256) : FSpec Tryz.prog 47 [.agg (q4 n), .int .i64 bit] [] (.agg (q4 (onceN (2 * n + bit)))) [] := by
  refine FSpec.of_W fDouble_low (by simp) ?_
  simp only [initEnv]
  simp
  refine W_loop (X := { i : Nat // i ≤ 4 }) (fun i => [(2, .ptr 0 0), (4, .ptr 1 0), (5, .int .u64 (dca n bit i.1 : Nat)), (6, .int .i64 i.1)]) (fun i => [some ⟨mx i.1 (2 * n + bit) n, 51, true⟩, some ⟨q4 0, 51, true⟩]) (fun i => 4 - i.1) ⟨0, by omega⟩ retPost_le ?_ ?_
  · have e : IntKind.u64.wrap (bit : Int) = bit := by rw [wrapu64]; omega
    exact cut_w (by simp [dca_zero, mx_zero, q4_zero, e])
  · rintro ⟨i, hi⟩
    simp only
    simp
    refine WC_dec (fun hl => ?_) (fun hl => ?_)
    · have h4 : i < 4 := by omega
      have e1 : (wd n i : Int).fdiv 9223372036854775808 = (dca n bit (i + 1) : Nat) := by
        rw [← dca_succ n bit i hb]; exact shr_nat (wd n i) 63
      simp [h4, hl, dbl_wrap, e1]
      refine ⟨by omega, ⟨i + 1, by omega⟩, by simp; omega, ?_⟩
      exact cut_w (by simp [IntKind.bits, e1, wrap64s (n := (i : Int) + 1) (by omega) (by omega)])
    · have h4 : i = 4 := by omega
      subst h4
      simp [mx_four]
      refine WO_callP [] rfl rfl fL_spec (by simp) (by simp) ?_
      simp
      refine WO_callP [] rfl rfl (fBelow2_spec _ Lq hn (by decide)) (by simp) (by simp) ?_
      simp
      refine WC_dec (fun h => ?_) (fun h => ?_)
      · simp
        exact fin_W (by simp [onceN, h])
      · simp
        refine WO_callP [] rfl rfl fL_spec (by simp) (by simp) ?_
        simp
        refine WO_callP [] rfl rfl (fRLess_spec _ Lq (by omega)) (by simp) (by simp) ?_
        simp
        exact fin_W (by simp [onceN, h])
theorem add_wrap1 (a b i : Nat) : IntKind.u64.wrap ((wd a i : Int) + (wd b i : Int)) = ((wd a i + wd b i) % 18446744073709551616 : Nat) := by
  unfold IntKind.wrap
  simp [IntKind.signed, IntKind.bits]
theorem fAddL_spec (a b : Nat) (hs : a + b < 2 ^ 256) : FSpec Tryz.prog 21 [.agg (q4 a), .agg (q4 b)] [] (.agg (q4 (onceN (a + b)))) [] := by
  refine FSpec.of_W fAddL_low (by simp) ?_
  simp only [initEnv]
  simp
  refine W_loop (X := { i : Nat // i ≤ 4 }) (fun i => [(2, .ptr 0 0), (3, .ptr 1 0), (4, .ptr 2 0), (5, .int .u64 (car a b i.1 : Nat)), (6, .int .i64 i.1)]) (fun i => [some ⟨mx i.1 (a + b) a, 51, true⟩, some ⟨q4 b, 51, true⟩, some ⟨q4 0, 51, true⟩]) (fun i => 4 - i.1) ⟨0, by omega⟩ retPost_le ?_ ?_
  · exact cut_w (by simp [car_zero, mx_zero, q4_zero])
  · rintro ⟨i, hi⟩
    simp only
    simp
    refine WC_dec (fun hl => ?_) (fun hl => ?_)
    · have h4 : i < 4 := by omega
      have hc := car_succ a b i
      have hle := car_le a b i
      have hw := wd_add a b i
      have l1 := wd_lt a i
      have l2 := wd_lt b i
      obtain ⟨x, hx⟩ : ∃ x, x = (wd a i + wd b i) % 18446744073709551616 := ⟨_, rfl⟩
      have e1 := add_wrap1 a b i
      rw [← hx] at e1
      have e2 : IntKind.u64.wrap ((x : Int) + (car a b i : Int)) = (wd (a + b) i : Nat) := by
        rw [hw]
        unfold IntKind.wrap
        simp [IntKind.signed, IntKind.bits]
        omega
      have c1 : x < wd a i ↔ 18446744073709551616 ≤ wd a i + wd b i := by omega
      have c2 : wd (a + b) i < x ↔ 18446744073709551616 ≤ x + car a b i := by omega
      simp [h4, hl, e1]
      refine WC_dec (fun g1 => ?_) (fun g1 => ?_)
      · simp [h4, hl, e2]
        have : ¬ wd (a + b) i < x := by omega
        simp [this, h4, hl]
        have hn : car a b (i + 1) = 1 := by omega
        refine ⟨by omega, ⟨i + 1, by omega⟩, by simp; omega, ?_⟩
        exact cut_w (by simp [hn, wrap64s (n := (i : Int) + 1) (by omega) (by omega)])
      · simp [h4, hl, e2]
        refine WC_dec (fun g2 => ?_) (fun g2 => ?_)
        · have hn : car a b (i + 1) = 1 := by omega
          simp [h4, hl]
          refine ⟨by omega, ⟨i + 1, by omega⟩, by simp; omega, ?_⟩
          exact cut_w (by simp [hn, wrap64s (n := (i : Int) + 1) (by omega) (by omega)])
        · have hn : car a b (i + 1) = 0 := by omega
          simp [h4, hl]
          refine ⟨by omega, ⟨i + 1, by omega⟩, by simp; omega, ?_⟩
          exact cut_w (by simp [hn, wrap64s (n := (i : Int) + 1) (by omega) (by omega)])
    · have h4 : i = 4 := by omega
      subst h4
      simp [mx_four]
      refine WO_callP [] rfl rfl fL_spec (by simp) (by simp) ?_
      simp
      refine WO_callP [] rfl rfl (fBelow2_spec _ Lq hs (by decide)) (by simp) (by simp) ?_
      simp
      refine WC_dec (fun h => ?_) (fun h => ?_)
      · simp
        exact fin_W (by simp [onceN, h])
      · simp
        refine WO_callP [] rfl rfl fL_spec (by simp) (by simp) ?_
        simp
        refine WO_callP [] rfl rfl (fRLess_spec _ Lq (by omega)) (by simp) (by simp) ?_
        simp
        exact fin_W (by simp [onceN, h])
theorem fAddL_mod (a b : Nat) (ha : a < Lq) (hb : b < Lq) : FSpec Tryz.prog 21 [.agg (q4 a), .agg (q4 b)] [] (.agg (q4 ((a + b) % Lq))) [] := by
  have h := Lq_lt
  have e := fAddL_spec a b (by omega)
  rw [onceN_mod (by omega)] at e
  exact e
theorem fDouble_mod (n bit : Nat) (hn : n < Lq) (hb : bit ≤ 1) : FSpec Tryz.prog 47 [.agg (q4 n), .int .i64 bit] [] (.agg (q4 ((2 * n + bit) % Lq))) [] := by
  have h := Lq_lt
  have e := fDouble_spec n bit hb (by omega)
  rw [onceN_mod (by omega)] at e
  exact e
theorem mul_step0 (M a b k : Nat) : (2 * (a * (b / 2 ^ (k + 1)) % M) + 0) % M = 2 * a * (b / 2 ^ (k + 1)) % M := by
  rw [Nat.two_mul]; exact mul_step M a b k
theorem fMulL_spec (a b : Nat) (ha : a < Lq) (hb : b < 2 ^ 256) : FSpec Tryz.prog 22 [.agg (q4 a), .agg (q4 b)] [] (.agg (q4 (a * b % Lq))) [] := by
  have hA := fAddL_mod
  have hD := fDouble_mod
  have hpos : 0 < Lq := by decide
  generalize Lq = M at *
  refine FSpec.of_W fMulL_low (by simp) ?_
  simp only [initEnv]
  simp
  refine W_loop (X := { k : Nat // k ≤ 256 }) (fun i => [(2, .ptr 0 0), (3, .ptr 1 0), (4, .ptr 2 0), (5, .ptr 3 0), (6, .int .i64 ((i.1 : Int) - 1))]) (fun i => [some ⟨q4 a, 51, true⟩, some ⟨q4 b, 51, true⟩, some ⟨q4 0, 51, true⟩, some ⟨q4 (a * (b / 2 ^ i.1) % M), 51, true⟩]) (fun i => i.1) ⟨256, by omega⟩ retPost_le ?_ ?_
  · have e : b / 2 ^ 256 = 0 := Nat.div_eq_of_lt hb
    exact cut_w (by simp [e, q4_zero])
  · rintro ⟨i, hi⟩
    obtain _ | k := i
    · simp
      exact fin_W (by simp)
    · simp
      have hm := Nat.mod_lt (a * (b / 2 ^ (k + 1))) hpos
      have hD1 := hD _ 0 hm (by omega)
      rw [mul_step0] at hD1
      refine WO_callP [] rfl rfl hD1 (by simp) (by simp) ?_
      obtain ⟨q, hq⟩ : ∃ q, q = k / 64 := ⟨_, rfl⟩
      obtain ⟨r, hr⟩ : ∃ r, r = k % 64 := ⟨_, rfl⟩
      have e1 : (k : Int).tdiv 64 = (q : Int) := by rw [hq]; rfl
      have e2 : (k : Int).tmod 64 = (r : Int) := by rw [hr]; rfl
      have e5 : ((wd b q : Nat) : Int).fdiv (2 ^ min r 64) = ((wd b q / 2 ^ r : Nat) : Int) := by rw [show min r 64 = r by omega]; exact shr_nat _ _
      have e6 : (q : Int) < 4 := by omega
      have e7 : q < 4 := by omega
      have e3 := wd_bit' b k
      rw [← hq, ← hr] at e3
      generalize wd b q / 2 ^ r = z at *
      have e8 : (z : Int).tmod 2 = ((b / 2 ^ k % 2 : Nat) : Int) := by rw [← e3]; rfl
      obtain ⟨y, hy⟩ : ∃ y, y = b / 2 ^ k % 2 := ⟨_, rfl⟩
      rw [← hy] at e8
      have e9 : (y : Int) = 1 ↔ y = 1 := by omega
      simp [e1, e2, e6, e7, e5, e8, IntKind.bits, wrap64s (n := (q : Int)) (by omega) (by omega)]
      refine WC_dec (fun h => ?_) (fun h => ?_)
      · have h' : b / 2 ^ k % 2 = 1 := by omega
        simp
        refine WO_callP [] rfl rfl (hA _ _ (Nat.mod_lt _ hpos) ha) (by simp) (by simp) ?_
        rw [mul_bit1 M a b k h']
        simp
        refine ⟨⟨k, by omega⟩, by simp, ?_⟩
        exact cut_w (by simp [wrap64s (n := (k : Int) - 1) (by omega) (by omega)])
      · have h' : ¬ b / 2 ^ k % 2 = 1 := by omega
        simp
        refine ⟨⟨k, by omega⟩, by simp, ?_⟩
        rw [mul_bit0 M a b k h']
        exact cut_w (by simp [wrap64s (n := (k : Int) - 1) (by omega) (by omega)])
theorem red_dbl (M n k : Nat) : (2 * (n / 2 ^ (k + 1) % M) + n / 2 ^ k % 2) % M = n / 2 ^ k % M := by
  rw [Nat.add_mod, Nat.mul_mod, Nat.mod_mod, ← Nat.mul_mod, ← Nat.add_mod, ← bit_step]
def bitsN (m n : Nat) : List Nat := (List.range m).map fun i => n / 2 ^ i % 2
theorem bitsN_succ (m n : Nat) : bitsN (m + 1) n = bitsN m n ++ [n / 2 ^ m % 2] := by simp [bitsN, List.range_succ]
theorem bitsN_len (m n : Nat) : (bitsN m n).length = m := by simp [bitsN]
theorem fBits_spec (b : List UInt8) (md : Md) (hb : b.length < 2 ^ 40) : FSpec Tryz.prog 48 [.list 1 md (b.map bv)] [] (.list 1 ⟨false, false, false⟩ ((bitsN (8 * b.length) (byN b)).map (nV .i64))) [] := by
  refine FSpec.of_W fBits_low (by simp) ?_
  simp only [initEnv]
  simp
  refine W_loop (X := { i : Nat // i ≤ 8 * b.length }) (fun i => [(0, .list 1 md (b.map bv)), (3, .slice 1 0 0 i.1 none), (4, .int .i64 i.1)]) (fun i => [some ⟨(bitsN i.1 (byN b)).map (nV .i64), 3, false⟩]) (fun i => 8 * b.length - i.1) ⟨0, by omega⟩ retPost_le ?_ ?_
  · refine cut_trans (cut_ghost 3 1 3 (by simp) rfl rfl) (cut_w ?_)
    simp [bitsN]
  · rintro ⟨k, hi⟩
    simp only
    simp
    have e0 : IntKind.i64.wrap (8 * (b.length : Int)) = ((8 * b.length : Nat) : Int) := by rw [wrap64s (by omega) (by omega)]; simp
    simp only [e0]
    refine WC_dec (fun h => ?_) (fun h => ?_)
    · obtain ⟨q, hq⟩ : ∃ q, q = k / 8 := ⟨_, rfl⟩
      obtain ⟨r, hr⟩ : ∃ r, r = k % 8 := ⟨_, rfl⟩
      have e1 : (k : Int).tdiv 8 = (q : Int) := by rw [hq]; rfl
      have e2 : (k : Int).tmod 8 = (r : Int) := by rw [hr]; rfl
      have e3 := byN_bitD b k
      rw [← hq, ← hr] at e3
      have e7 : q < b.length := by omega
      have e6 : b[q].toNat = (b.getD q 0).toNat := by simp [e7]
      have e5 : ((b[q].toNat : Nat) : Int).fdiv (2 ^ min r 8) = ((b[q].toNat / 2 ^ r : Nat) : Int) := by rw [show min r 8 = r by omega]; exact shr_nat _ _
      rw [← e6] at e3
      generalize b[q].toNat / 2 ^ r = z at *
      have e4 : (z : Int).tmod 2 = ((z % 2 : Nat) : Int) := rfl
      rw [e3] at e4
      obtain ⟨y, hy⟩ : ∃ y, y = byN b / 2 ^ k % 2 := ⟨_, rfl⟩
      rw [← hy] at e4
      simp [e1, e2, e7, e4, e5, IntKind.bits, bitsN_len, wrap64s (n := (q : Int)) (by omega) (by omega), wrap64s (n := (y : Int)) (by omega) (by omega)]
      refine ⟨by omega, ⟨k + 1, by omega⟩, by simp; omega, ?_⟩
      refine cut_rw [1] (by simp) rfl ?_ ?_
      · simp [wrap64s (n := (k : Int) + 1) (by omega) (by omega)]
      · simp [bitsN_succ, List.take_of_length_le, bitsN_len, nV, ← hy]
    · have : k = 8 * b.length := by omega
      subst this
      simp
      exact fin_sl 0 rfl (by simp [bitsN_len]) (by simp) (by simp)
theorem fRReduce_spec (b : List UInt8) (md : Md) (hb : b.length < 2 ^ 40) : FSpec Tryz.prog 23 [.list 1 md (b.map bv)] [] (.agg (q4 (byN b % Lq))) [] := by
  have hD := fDouble_mod
  have hpos : 1 < Lq := by decide
  generalize Lq = M at *
  refine FSpec.of_W fRReduce_low (by simp) ?_
  simp only [initEnv]
  simp
  refine WO_callP [] rfl rfl (fBits_spec b md hb) (by simp) (by simp) ?_
  simp [bitsN_len]
  refine W_loop (X := { k : Nat // k ≤ 8 * b.length }) (fun i => [(2, .ptr 0 0), (3, .list 1 ⟨false, false, false⟩ ((bitsN (8 * b.length) (byN b)).map (nV .i64))), (4, .ptr 1 0), (5, .int .i64 ((i.1 : Int) - 1))]) (fun i => [some ⟨q4 0, 51, true⟩, some ⟨q4 (byN b / 2 ^ i.1 % M), 51, true⟩]) (fun i => i.1) ⟨8 * b.length, by omega⟩ retPost_le ?_ ?_
  · have e := byN_top8 b
    have e2 : IntKind.i64.wrap (8 * (b.length : Int) - 1) = 8 * (b.length : Int) - 1 := by rw [wrap64s (by omega) (by omega)]
    exact cut_w (by simp [e, e2, q4_zero])
  · rintro ⟨i, hi⟩
    obtain _ | k := i
    · simp
      exact fin_W (by simp)
    · have hg : (bitsN (8 * b.length) (byN b))[k]? = some (byN b / 2 ^ k % 2) := by simp [bitsN, show k < 8 * b.length by omega]
      have hD1 := hD _ (byN b / 2 ^ k % 2) (Nat.mod_lt (byN b / 2 ^ (k + 1)) (Nat.lt_trans Nat.zero_lt_one hpos)) (by omega)
      rw [red_dbl] at hD1
      obtain ⟨y, hy⟩ : ∃ y, y = byN b / 2 ^ k % 2 := ⟨_, rfl⟩
      rw [← hy] at hg hD1
      simp [hg, bitsN_len, nV]
      refine ⟨by omega, ?_⟩
      refine WO_callP [] rfl rfl hD1 (by simp) (by simp) ?_
      simp
      refine ⟨⟨k, by omega⟩, by simp, ?_⟩
      exact cut_w (by simp [wrap64s (n := (k : Int) - 1) (by omega) (by omega)])
attribute [local simp] WS_at_map WSr_at_map WS_at_q4 WSr_at_q4 WS_at_mx mx_set' WS_at_arr WSr_at_arr loadWP splice_full Int.natCast_inj arr_zero32 fill_zero arr_set upd_fill
def decQ (n : Nat) : AV := if n < Lq then .tuple [.agg (q4 n), .int .i64 0] else .tuple [.agg (q4 0), .int .i64 7]
theorem fDecode_spec (l : List UInt8) (hl : l.length = 32) : FSpec Tryz.prog 51 [.agg (l.map bv)] [] (decQ (byN l)) [] := by
  have hO := fOrder_spec
  have hM2 : Lq < 2 ^ 256 := by decide
  simp only [decQ]
  generalize Lq = M at *
  refine FSpec.of_W fDecode_low (by simp) ?_
  simp only [initEnv]
  simp
  refine ⟨by omega, ?_⟩
  refine W_loop (X := { i : Nat // i ≤ 32 }) (fun i => [(2, .ptr 1 0), (4, .ptr 2 0), (7, .agg (l.map bv)), (8, .int .i64 i.1)]) (fun i => [some ⟨l.map bv, 22, true⟩, some ⟨q4 0, 105, true⟩, some ⟨q4 (byN (l.take i.1)), 105, true⟩]) (fun i => 32 - i.1) ⟨0, by omega⟩ retPost_le ?_ ?_
  · exact cut_w (by simp [hl, List.take_of_length_le, byN, q4_zero])
  · rintro ⟨i, hi⟩
    simp only
    simp
    refine WC_dec (fun h => ?_) (fun h => ?_)
    · have hil : i < l.length := by omega
      have hc : l[i]? = some l[i] := by simp
      obtain ⟨q, hq⟩ : ∃ q, q = i / 8 := ⟨_, rfl⟩
      obtain ⟨r, hr⟩ : ∃ r, r = i % 8 := ⟨_, rfl⟩
      obtain ⟨s, hs⟩ : ∃ s, s = 8 * r := ⟨_, rfl⟩
      have e1 : (i : Int).tdiv 8 = (q : Int) := by rw [hq]; rfl
      have e2 : (i : Int).tmod 8 = (r : Int) := by rw [hr]; rfl
      have e3 : IntKind.i64.wrap (8 * (r : Int)) = (s : Int) := by rw [wrap64s (by omega) (by omega)]; omega
      have hx := UInt8.toNat_lt l[i]
      have e4 := or_val (byN (l.take i)) i q s l[i].toNat hq (by omega) (byN_take32 l i hil) hx
      have e5 : (q : Int) < 4 := by omega
      have e6 : q < 4 := by omega
      have e7 := q4_put (byN (l.take i)) i l[i].toNat (byN_take32 l i hil) hx
      rw [← byN_take l i hil, ← hq, ← hr, ← hs] at e7
      have e8 : IntKind.u64.wrap ((l[i].toNat : Nat) : Int) = (l[i].toNat : Nat) := by rw [wrapu64]; congr 1; omega
      obtain ⟨v, hv⟩ : ∃ v, v = wd (byN (l.take i)) q + l[i].toNat * 2 ^ s := ⟨_, rfl⟩
      rw [← hv] at e4 e7
      simp [h, hc, e1, e2, e3, e4, e5, e6, e8, IntKind.bits, wrap64s (n := (q : Int)) (by omega) (by omega)]
      refine ⟨by omega, ⟨i + 1, by omega⟩, by simp; omega, ?_⟩
      exact cut_w (by simp [e7, wrap64s (n := (i : Int) + 1) (by omega) (by omega)])
    · have : i = 32 := by omega
      subst this
      have hlt : byN l < 2 ^ 256 := by have := byN_lt l; rw [hl] at this; exact this
      simp [List.take_of_length_le (show l.length ≤ 32 by omega)]
      refine WO_callP [] rfl rfl hO (by simp) (by simp) ?_
      simp
      refine WO_callP [] rfl rfl (fLess_spec (byN l) M hlt hM2) (by simp) (by simp) ?_
      simp
      refine WC_ndec (fun h => ?_) (fun h => ?_)
      · simp
        exact fin_W (by simp [h, q4_zero])
      · simp
        exact fin_W (by simp [h])
end Go.Proofs.YthgibibeoapfbaaGreat
namespace Go.Proofs.YthgibibeoapfbaaGreat
open Go Go.Fw
attribute [local irreducible] W WX WR WO WS WSr WH WHA WG WC FSpec
attribute [local simp] WS_at_map WSr_at_map WS_at_q4 WSr_at_q4 WS_at_arr WSr_at_arr loadWP splice_full Int.natCast_inj arr_set arr_take
def hashN (b : List UInt8) : Nat := byN (dgst F64 b) % Lq
theorem fRSgHash_spec (l : List (Md × List UInt8)) (md : Md) (hl : (allB l).length < 2 ^ 40) (hn : l.length < 2 ^ 40) : FSpec Tryz.prog 19 [.list 1 md (l.map lsV)] [] (.agg (q4 (hashN (allB l)))) [] := by
  refine FSpec.of_W fRSgHash_low (by simp) ?_
  simp only [initEnv]
  simp
  refine W_loop (X := { i : Nat // i ≤ l.length }) (fun i => [(0, .list 1 md (l.map lsV)), (2, .ptr 0 0), (3, .slice 1 1 0 (allB (l.take i.1)).length none), (4, .int .i64 i.1)])
    (fun i => [some ⟨q4 0, 51, true⟩, some ⟨(allB (l.take i.1)).map bv, 5, false⟩]) (fun i => l.length - i.1) ⟨0, by omega⟩ retPost_le ?_ ?_
  · refine cut_trans (cut_ghost 3 1 5 (by simp) rfl rfl) (cut_w ?_)
    simp [allB, q4_zero]
  · rintro ⟨i, hi⟩
    have hle := allB_le l i
    simp only at hi ⊢
    simp
    refine WC_dec (fun h => ?_) (fun h => ?_)
    · have hil : i < l.length := by omega
      have hc : l[i]? = some l[i] := by simp
      have ht := allB_take l i hil
      have hle2 := allB_le l (i + 1)
      rw [ht, List.length_append] at hle2
      obtain ⟨st, hst⟩ : ∃ st, st = allB (l.take i) := ⟨_, rfl⟩
      rw [← hst] at ht hle2 ⊢
      simp [hc, lsV]
      repeat (refine ⟨by omega, ?_⟩)
      refine ⟨⟨i + 1, by omega⟩, by simp; omega, ?_⟩
      refine cut_rw [0, 2] (by simp) rfl (by simp [ht, wrap64s (n := (i : Int) + 1) (by omega) (by omega)]) ?_
      simp [ht, List.take_of_length_le]
    · have : i = l.length := by omega
      subst this
      simp
      refine WO_callP [] rfl rfl fLong_spec (by simp) (by simp) ?_
      simp
      have hs := fSum3_spec F64 (.inr rfl) okF64 (allB l) ⟨false, false, true⟩ hl
      refine WO_callP [1] (as' := [.agg (frm F64), .list 1 ⟨false, false, true⟩ ((allB l).map bv)]) rfl (by simp [List.take_of_length_le]) hs (by simp) (by simp) ?_
      simp
      have hr := fRReduce_spec (dgst F64 (allB l)) ⟨false, false, false⟩ (by simp)
      refine WO_callP [] rfl rfl hr (by simp) (by simp) ?_
      simp
      exact fin_W (by simp [hashN])
end Go.Proofs.YthgibibeoapfbaaGreat
namespace Go.Proofs.YthgibibeoapfbaaGreat
open Go Go.Fw
attribute [local irreducible] W WX WR WO WS WSr WH WHA WG WC FSpec
attribute [local simp] WS_at_map WSr_at_map loadWP splice_full Int.natCast_inj
noncomputable def verP (key sig msg : List UInt8) : Bool :=
  match decE (byN key) with
  | none => false
  | some (ax, ay) => match decE (byN (sig.take 32)) with
    | none => false
    | some (rx, ry) => if byN (sig.drop 32) < Lq then sameE (pB (byN (sig.drop 32))) (addE [atE rx ry, timesE (wholeE (atE ax ay)) (hashN (sig.take 32 ++ (key ++ msg))) 256]) else false
noncomputable def verI (b : Bool) : Int := if b then 0 else 9
set_option maxRecDepth 100000 in
set_option maxHeartbeats 4000000 in
theorem fSgVerify_spec (key sig : List UInt8) (hk : key.length = 32) (hs : sig.length = 64) (l : List (Md × List UInt8)) (md : Md) (hl : (allB l).length < 2 ^ 39) (hn : l.length < 2 ^ 39) : FSpec Tryz.prog 28 [.agg (key.map bv), .agg (sig.map bv), .list 1 md (l.map lsV)] [] (.int .i64 (verI (verP key sig (allB l)))) [] := by
  have d1 := fCvDecode_spec key hk
  have d2 := fCvDecode_spec (sig.take 32) (by simp [hs])
  have d3 := fDecode_spec (sig.drop 32) (by simp [hs])
  have kt : List.take 32 (key.map bv) = key.map bv := List.take_of_length_le (by simp [hk])
  rw [List.map_take] at d2
  rw [List.map_drop] at d3
  have kt3 : List.take 32 (List.drop 32 (sig.map bv)) = List.drop 32 (sig.map bv) := List.take_of_length_le (by simp [hs])
  have hO := fCvBase_spec
  have t1 := fCvTimes_spec (atE (toF baseX) (toF baseY)) (byN (sig.drop 32))
  rw [show timesE (wholeE (atE (toF baseX) (toF baseY))) (byN (sig.drop 32)) 256 = pB (byN (sig.drop 32)) from rfl] at t1
  have hG := fGOf_spec ([(⟨false, false, false⟩, sig.take 32), (⟨false, true, false⟩, key)] ++ l) ⟨false, false, false⟩ (by simp [allB, hs, hk] at *; omega) (by simp; omega)
  have hAll : allB ([(⟨false, false, false⟩, sig.take 32), (⟨false, true, false⟩, key)] ++ l) = sig.take 32 ++ (key ++ allB l) := by simp [allB]
  rw [hAll] at hG
  have hR := fReduce_spec (dgst F64 (sig.take 32 ++ (key ++ allB l))) ⟨false, true, true⟩ (by simp)
  have hdl : (dgst F64 (sig.take 32 ++ (key ++ allB l))).length = 64 := by simp
  rw [show byN (dgst F64 (sig.take 32 ++ (key ++ allB l))) % Lq = hashN (sig.take 32 ++ (key ++ allB l)) from rfl] at hR
  unfold verP
  generalize hashN (sig.take 32 ++ (key ++ allB l)) = k at *
  generalize dgst F64 (sig.take 32 ++ (key ++ allB l)) = D at *
  generalize atE (toF baseX) (toF baseY) = B at *
  generalize byN (sig.drop 32) = n at *
  generalize pB n = p at *
  refine FSpec.of_W (c := (.seq (.reg fSgVerify_r0) (.seq (.reg fSgVerify_r1) (.seq (.seq (.reg fSgVerify_r2) (.cond (.t 18) fSgVerify_k0 (.kill [18] .skip))) (.kill [6, 8, 17, 18] (.seq (.reg fSgVerify_r4) (.seq (.seq (.reg fSgVerify_r5) (.cond (.t 27) fSgVerify_k1 (.kill [27] .skip))) (.kill [6, 8, 26, 27] (.seq (.reg fSgVerify_r7) (.seq (.seq (.reg fSgVerify_r8) (.cond (.t 36) fSgVerify_k2 (.kill [36] .skip))) (.cut (.kill [6, 8, 35, 36] (.seq (.draw fSgVerify_r10) (.seq (.seq (.draw fSgVerify_r11) (.cond (.t 54) fSgVerify_k3 (.keep [] .skip))) (.keep [] (.seq (.reg fSgVerify_r13) .ret)))))))))))))))) fSgVerify_low (by simp) ?_
  simp only [initEnv]
  simp [hk, hs, kt]
  generalize decE (byN key) = A at *
  obtain _ | ⟨ax, ay⟩ := A
  · simp only at d1 ⊢
    simp only [ptC, List.append_assoc] at d1
    refine WO_callP [] rfl rfl d1 (by simp [q4]) (by simp [q4]) ?_
    simp [q4]
    exact fin_W (by simp [verI])
  simp only at d1 ⊢
  have u1 := fCvTimes_spec (atE ax ay) k
  generalize timesE (wholeE (atE ax ay)) k 256 = kA at *
  generalize atE ax ay = A at *
  simp only [ptC, List.append_assoc] at d1 u1
  refine WO_callP [] rfl rfl d1 (by simp [q4]) (by simp [q4]) ?_
  simp [q4, hs, kt]
  generalize decE (byN (sig.take 32)) = R at *
  obtain _ | ⟨rx, ry⟩ := R
  · simp only at d2 ⊢
    simp only [ptC, List.append_assoc] at d2
    refine WO_callP [] rfl rfl d2 (by simp [q4]) (by simp [q4]) ?_
    simp [q4]
    exact fin_W (by simp [verI])
  simp only at d2 ⊢
  generalize atE rx ry = R at *
  simp only [ptC, List.append_assoc] at d2
  refine WO_callP [] rfl rfl d2 (by simp [q4]) (by simp [q4]) ?_
  simp [q4, hs, kt, kt3]
  unfold decQ at d3
  by_cases hnL : n < Lq
  · rw [if_pos hnL] at d3
    have a1 := fCvAdd_spec [R, kA] ⟨false, true, false⟩ (by simp)
    rw [ptL2] at a1
    generalize addE [R, kA] = Y at *
    have s1 := fCvSame_spec p Y
    generalize sameE p Y = z at *
    generalize Lq = L at *
    simp only [ptC, List.append_assoc] at a1 s1 t1 hO u1
    refine WO_callP [] rfl rfl d3 (by simp [q4]) (by simp [q4]) ?_
    simp [q4, hs, kt, kt3, hnL]
    refine W_cut (cut_trans (cut_frz 0 rfl) (cut_frz 1 rfl)) ?_
    simp [q4, hs, kt, kt3, hnL]
    refine ⟨by omega, ⟨by omega, by omega⟩, ?_⟩
    simp only [List.map_append, List.map_cons, List.map_nil, lsV, List.cons_append, List.nil_append, List.map_take] at hG
    refine WO_callQ rfl hG (by simp) ?_
    simp [q4, hs, kt, kt3, hdl]
    refine ⟨⟨⟨by omega, by omega⟩, by omega⟩, ?_⟩
    refine WO_callP [] rfl rfl hO (by simp [q4]) (by simp [q4, hdl]) ?_
    simp [q4]
    refine WO_callP [] rfl rfl t1 (by simp [q4]) (by simp [q4, hdl]) ?_
    simp [q4]
    refine WO_callP [5] (as' := [.list 1 ⟨false, true, true⟩ (D.map bv)]) rfl (by simp [hdl, List.take_of_length_le]) hR (by simp [q4]) (by simp [q4, hdl]) ?_
    simp [q4]
    refine WO_callP [] rfl rfl u1 (by simp [q4]) (by simp [q4, hdl]) ?_
    simp [q4]
    refine WO_callP [] rfl rfl a1 (by simp [q4]) (by simp [q4, hdl]) ?_
    simp [q4]
    refine WO_callP [] rfl rfl s1 (by simp [q4]) (by simp [q4, hdl]) ?_
    cases z
    · simp
      exact fin_W (by simp [verI])
    · simp
      exact fin_W (by simp [verI])
  · rw [if_neg hnL] at d3
    refine WO_callP [] rfl rfl d3 (by simp [q4]) (by simp [q4, hdl]) ?_
    simp [q4, hnL]
    exact fin_W (by simp [verI])
end Go.Proofs.YthgibibeoapfbaaGreat
namespace Go.Proofs.YthgibibeoapfbaaGreat
open Go Go.Fw
attribute [local irreducible] W WX WR WO WS WSr WH WHA WG WC FSpec
attribute [local simp] WS_at_map WSr_at_map WS_at_q4 WSr_at_q4 WS_at_arr WSr_at_arr loadWP splice_full Int.natCast_inj arr_zero32 fill_zero arr_set upd_fill q17_d q17_t q17_t0 q17_d34 q17_t51 q17_s0 q17_s17 q17_s34 hk17
def sbN (n k : Nat) : Nat → Nat := fun j => wd n j / 256 ^ (k - 8 * j)
theorem sbN_top (n : Nat) : arr .u64 4 (sbN n 32) = q4 0 := by
  rw [q4_arr]
  refine arr_ext fun j hj => ?_
  have e : 256 ^ 8 ≤ 256 ^ (32 - 8 * j) := Nat.pow_le_pow_right (by decide) (by omega)
  have h := wd_lt n j
  simp only [sbN]
  rw [Nat.div_eq_of_lt (Nat.lt_of_lt_of_le h e)]
  simp [wd]
theorem sbN_zero (n : Nat) : arr .u64 4 (sbN n 0) = q4 n := by
  rw [q4_arr]
  refine arr_ext fun j hj => ?_
  simp [sbN]
theorem sbN_step (n k : Nat) : upd (sbN n (k + 1)) (k / 8) (wd n (k / 8) / 256 ^ (k % 8)) = sbN n k := by
  funext j
  simp only [upd, sbN]
  by_cases h : j = k / 8
  · subst h
    rw [if_pos rfl]; congr 2; omega
  · rw [if_neg h]
    by_cases h2 : k < 8 * j
    · rw [show k + 1 - 8 * j = 0 by omega, show k - 8 * j = 0 by omega]
    · have hl := wd_lt n j
      have e1 : 256 ^ 8 ≤ 256 ^ (k - 8 * j) := Nat.pow_le_pow_right (by decide) (by omega)
      have e2 : 256 ^ 8 ≤ 256 ^ (k + 1 - 8 * j) := Nat.pow_le_pow_right (by decide) (by omega)
      rw [Nat.div_eq_of_lt (Nat.lt_of_lt_of_le hl e1), Nat.div_eq_of_lt (Nat.lt_of_lt_of_le hl e2)]
theorem sbN_add (l : List UInt8) (k : Nat) (h : k < l.length) : IntKind.u64.wrap (IntKind.u64.wrap ((sbN (byN l) (k + 1) (k / 8) : Nat) * 256) + (l[k].toNat : Nat)) = (wd (byN l) (k / 8) / 256 ^ (k % 8) : Nat) := by
  have hx := UInt8.toNat_lt l[k]
  have hw := wd_lt (byN l) (k / 8)
  have e0 : sbN (byN l) (k + 1) (k / 8) = wd (byN l) (k / 8) / 256 ^ (k % 8) / 256 := by
    simp only [sbN]
    rw [show k + 1 - 8 * (k / 8) = k % 8 + 1 by omega, Nat.pow_succ, Nat.div_div_eq_div_mul]
  have e1 : wd (byN l) (k / 8) / 256 ^ (k % 8) % 256 = l[k].toNat := by
    rw [← byN_byte l k h, ← wd_byte (byN l) k, show (256 : Nat) ^ (k % 8) = 2 ^ (8 * (k % 8)) by rw [Nat.pow_mul]]
  have e2 : wd (byN l) (k / 8) / 256 ^ (k % 8) < 2 ^ 64 := Nat.lt_of_le_of_lt (Nat.div_le_self _ _) hw
  rw [e0]
  generalize wd (byN l) (k / 8) / 256 ^ (k % 8) = z at *
  rw [show (((z / 256 : Nat) : Int) * 256) = ((z / 256 * 256 : Nat) : Int) by simp, wrapu64, Nat.mod_eq_of_lt (by omega), show (((z / 256 * 256 : Nat) : Int) + (l[k].toNat : Nat)) = ((z / 256 * 256 + l[k].toNat : Nat) : Int) by simp, wrapu64, Nat.mod_eq_of_lt (by omega)]
  congr 1; omega
theorem byteAt (l : List UInt8) (m o : Nat) (h : l.length = o + m) : arr .u8 m (fun k => (l.getD (o + k) 0).toNat) = (l.drop o).map bv := by
  refine List.ext_getElem (by simp [h]) fun k h1 h2 => ?_
  simp only [arr_length] at h1
  have : o + k < l.length := by omega
  simp [arr_getElem, bv, this]
theorem dec_abs (l : List UInt8) (hl : l.length = 32) : ∃ C : List AV, (C.length = 51 ∧ C.take 51 = C ∧ (idsL (fun _ => false) C = true ∧ cleanL C = true) ∧ ∀ n, ltL n C = true) ∧ FSpec Tryz.prog 40 [.agg (l.map bv)] [] (.tuple [.agg C, .bool (decE (byN l)).isSome]) [] ∧ ∀ x y, decE (byN l) = some (x, y) → C = rpC ⟨x, y, 1⟩ := by
  have h := fRCvDecode_spec l hl
  generalize decE (byN l) = D at *
  obtain _ | ⟨x, y⟩ := D
  · exact ⟨_, ⟨by simp, by simp, by simp, by simp⟩, h, fun _ _ q => by cases q⟩
  · refine ⟨_, ⟨by simp [rpC], List.take_of_length_le (by simp [rpC]), by simp [rpC], by intro n; simp [rpC]⟩, h, fun _ _ q => by cases q; rfl⟩
theorem ver_ref {key sig msg : List UInt8} {ax ay rx ry : Fp} (h1 : decE (byN key) = some (ax, ay)) (h2 : decE (byN (sig.take 32)) = some (rx, ry)) (h3 : byN (sig.drop 32) < Lq) :
    verP key sig msg = sameR (mB (byN (sig.drop 32))) (Cv.addR (toF dP) ⟨rx, ry, 1⟩ (timesR ⟨ax, ay, 1⟩ (hashN (sig.take 32 ++ (key ++ msg))) (toF dP) 256)) := by
  unfold verP
  rw [h1]; simp only; rw [h2]; simp only; rw [if_pos h3]
  have hk : hashN (sig.take 32 ++ (key ++ msg)) < 2 ^ 256 := Nat.lt_of_lt_of_le (Nat.mod_lt _ (by decide)) (Nat.le_of_lt (Nat.lt_of_lt_of_le Lq_lt (by decide)))
  have hn : byN (sig.drop 32) < 2 ^ 256 := Nat.lt_of_lt_of_le h3 (Nat.le_of_lt (Nat.lt_of_lt_of_le Lq_lt (by decide)))
  generalize hashN (sig.take 32 ++ (key ++ msg)) = k at *
  let A : Cv.Pt FP := ⟨ax, ay, (decE_on h1).1⟩
  let R : Cv.Pt FP := ⟨rx, ry, (decE_on h2).1⟩
  have rA : Cv.Rep (atE ax ay) A := rep_at A
  have rR : Cv.Rep (atE rx ry) R := rep_at R
  have qA : Cv.RRep ⟨ax, ay, 1⟩ A := rrep_at A
  have qR : Cv.RRep ⟨rx, ry, 1⟩ R := rrep_at R
  exact bool_eq (sameE_rep (pB_rep hn) (add2_rep rR (times256 rA hk))) (sameR_rep (mB_rep hn) (Cv.addR_rep qR (timesR256 qA hk)))
theorem ver_no {key sig msg : List UInt8} (h : (decE (byN key)).isSome = false ∨ (decE (byN (sig.take 32))).isSome = false ∨ ¬ byN (sig.drop 32) < Lq) : verP key sig msg = false := by
  unfold verP
  cases h1 : decE (byN key) with
  | none => rfl
  | some a => cases h2 : decE (byN (sig.take 32)) with
    | none => rfl
    | some r =>
      rw [h1, h2] at h
      rcases h with h | h | h
      · cases h
      · cases h
      · exact if_neg h
set_option maxRecDepth 100000 in
set_option maxHeartbeats 4000000 in
theorem fRSgVerify_spec (key sig msg : List UInt8) (hk : key.length = 32) (hs : sig.length = 64) (md : Md) (hm : msg.length < 2 ^ 39) : FSpec Tryz.prog 30 [.agg (key.map bv), .list 1 md (msg.map bv), .agg (sig.map bv)] [] (.bool (verP key sig msg)) [] := by
  obtain ⟨A, ⟨A1, A2, A3, A4⟩, d1, A5⟩ := dec_abs key hk
  obtain ⟨R, ⟨R1, R2, R3, R4⟩, d2, R5⟩ := dec_abs (sig.take 32) (by simp [hs])
  have hnlt : byN (sig.drop 32) < 2 ^ 256 := by have := byN_lt (sig.drop 32); rw [show (sig.drop 32).length = 32 by simp [hs]] at this; exact this
  have d3 := fBelow_spec (byN (sig.drop 32)) hnlt
  have kt : List.take 32 (key.map bv) = key.map bv := List.take_of_length_le (by simp [hk])
  have hb1 : arr .u8 32 (fun k => (sig.getD k 0).toNat) = (sig.map bv).take 32 := by
    have := byteAt (sig.take 32) 32 0 (by simp [hs])
    simp only [List.drop_zero, Nat.zero_add] at this
    rw [← List.map_take, ← this]
    exact arr_ext fun k hk => by simp [List.getD_eq_getElem?_getD, List.getElem?_take, hk]
  have hb2 := byteAt sig 32 32 hs
  have kt2 : List.take 32 (List.take 32 (sig.map bv)) = List.take 32 (sig.map bv) := List.take_of_length_le (by simp [hs])
  rw [List.map_take] at d2
  refine FSpec.of_W fRSgVerify_low (by simp) ?_
  simp only [initEnv]
  simp [hk, hs]
  refine W_loop (X := { i : Nat // i ≤ 32 }) (fun i => [(1, .list 1 md (msg.map bv)), (3, .ptr 0 0), (5, .ptr 1 0), (7, .ptr 2 0), (8, .ptr 3 0), (9, .int .i64 i.1)])
    (fun i => [some ⟨key.map bv, 22, true⟩, some ⟨sig.map bv, 25, true⟩, some ⟨arr .u8 32 (fill i.1 fun k => (sig.getD k 0).toNat), 22, true⟩, some ⟨arr .u8 32 (fill i.1 fun k => (sig.getD (32 + k) 0).toNat), 22, true⟩]) (fun i => 32 - i.1) ⟨0, by omega⟩ retPost_le ?_ ?_
  · exact cut_w (by simp)
  · rintro ⟨i, hi⟩
    simp only
    simp
    refine WC_dec (fun h => ?_) (fun h => ?_)
    · have h1 : i < sig.length := by omega
      have h2 : 32 + i < sig.length := by omega
      have c1 : sig[i]? = some sig[i] := by simp
      have c2 : sig[32 + i]? = some sig[32 + i] := by simp
      have g1 : (sig.getD i 0).toNat = sig[i].toNat := by simp [h1]
      have g2 : (sig.getD (32 + i) 0).toNat = sig[32 + i].toNat := by simp [h2]
      have u1 := upd_fill i (fun k => (sig.getD k 0).toNat)
      have u2 := upd_fill i (fun k => (sig.getD (32 + k) 0).toNat)
      simp only [g1] at u1
      simp only [g2] at u2
      have w1 : IntKind.i64.wrap (32 + (i : Int)) = ((32 + i : Nat) : Int) := by rw [wrap64s (by omega) (by omega)]; simp
      have w2 : IntKind.i64.wrap ((i : Int) + 1) = (i : Int) + 1 := wrap64s (by omega) (by omega)
      simp [h, c1, c2, w1, w2, hs]
      repeat (refine ⟨by omega, ?_⟩)
      simp only [List.getD_eq_getElem?_getD] at u1 u2
      refine ⟨⟨i + 1, by omega⟩, by simp; omega, ?_⟩
      exact cut_w (by simp [u1, u2, show (32 + (i : Int)).toNat = 32 + i by omega, c2])
    · have : i = 32 := by omega
      subst this
      simp only [List.getD_eq_getElem?_getD] at hb1 hb2
      simp [arr_fill, hb1, hb2, kt]
      refine ⟨by omega, ?_⟩
      refine WO_callP [] rfl rfl d1 (by simp [A3]) (by simp [hk]) ?_
      simp [A1, A2, A3, A4, hk, kt2]
      refine ⟨by omega, ?_⟩
      refine WO_callP [] rfl rfl d2 (by simp [R3]) (by simp [hs]) ?_
      simp [R1, R2, R3, R4, hs]
      obtain ⟨S, hS⟩ : ∃ S, S = sig.drop 32 := ⟨_, rfl⟩
      rw [← hS] at d3 hnlt
      have hSl : S.length = 32 := by rw [hS]; simp [hs]
      have hSm : List.drop 32 (List.map bv sig) = S.map bv := by rw [hS, List.map_drop]
      simp only [hSm]
      refine W_loop (X := { k : Nat // k ≤ 32 }) (fun i => [(1, .list 1 md (msg.map bv)), (3, .ptr 0 0), (7, .ptr 2 0), (8, .ptr 3 0), (10, .ptr 4 0), (11, .bool (decE (byN key)).isSome), (12, .ptr 5 0), (13, .bool (decE (byN (sig.take 32))).isSome), (14, .ptr 6 0), (15, .int .i64 ((i.1 : Int) - 1))])
        (fun i => [some ⟨key.map bv, 22, true⟩, some ⟨sig.map bv, 25, true⟩, some ⟨(sig.map bv).take 32, 22, true⟩, some ⟨S.map bv, 22, true⟩, some ⟨A, 58, true⟩, some ⟨R, 58, true⟩, some ⟨arr .u64 4 (sbN (byN S) i.1), 51, true⟩]) (fun i => i.1) ⟨32, by omega⟩ retPost_le ?_ ?_
      · exact cut_w (by simp [sbN_top, A4, R4, q4_zero])
      · rintro ⟨i, hi⟩
        obtain _ | k := i
        · simp [sbN_zero]
          refine WO_callP [] rfl rfl d3 (by simp) (by simp) ?_
          by_cases h1 : (decE (byN key)).isSome = true
          · by_cases h2 : (decE (byN (sig.take 32))).isSome = true
            · by_cases h3 : byN S < Lq
              · obtain ⟨⟨ax, ay⟩, hA⟩ := Option.isSome_iff_exists.1 h1
                obtain ⟨⟨rx, ry⟩, hR⟩ := Option.isSome_iff_exists.1 h2
                have hV := ver_ref (msg := msg) hA hR (by rw [← hS]; exact h3)
                rw [← hS] at hV
                rw [hV]
                obtain rfl := A5 ax ay hA
                obtain rfl := R5 rx ry hR
                have hB := fRCvBase_spec
                have hD := fRCvD_spec
                have hH := fRSgHash_spec [(⟨false, true, false⟩, sig.take 32), (⟨false, true, false⟩, key), (md, msg)] ⟨false, true, false⟩ (by simp [allB, hs, hk]; omega) (by simp)
                rw [show allB [(⟨false, true, false⟩, sig.take 32), (⟨false, true, false⟩, key), (md, msg)] = sig.take 32 ++ (key ++ msg) by simp [allB]] at hH
                simp only [List.map_cons, List.map_nil, lsV, List.map_take] at hH
                have t1 := fRCvTimes_spec ⟨toF baseX, toF baseY, 1⟩ (byN S) (toF dP)
                rw [show timesR ⟨toF baseX, toF baseY, 1⟩ (byN S) (toF dP) 256 = mB (byN S) from rfl] at t1
                have t2 := fRCvTimes_spec ⟨ax, ay, 1⟩ (hashN (sig.take 32 ++ (key ++ msg))) (toF dP)
                have a1 := fRCvAdd_spec ⟨rx, ry, 1⟩ (timesR ⟨ax, ay, 1⟩ (hashN (sig.take 32 ++ (key ++ msg))) (toF dP) 256) (toF dP)
                have s1 := fRCvSame_spec (mB (byN S)) (Cv.addR (toF dP) ⟨rx, ry, 1⟩ (timesR ⟨ax, ay, 1⟩ (hashN (sig.take 32 ++ (key ++ msg))) (toF dP) 256))
                clear hV A5 R5 d1 d2
                generalize sameR (mB (byN S)) (Cv.addR (toF dP) ⟨rx, ry, 1⟩ (timesR ⟨ax, ay, 1⟩ (hashN (sig.take 32 ++ (key ++ msg))) (toF dP) 256)) = z at *
                generalize Cv.addR (toF dP) ⟨rx, ry, 1⟩ (timesR ⟨ax, ay, 1⟩ (hashN (sig.take 32 ++ (key ++ msg))) (toF dP) 256) = Y at *
                generalize timesR ⟨ax, ay, 1⟩ (hashN (sig.take 32 ++ (key ++ msg))) (toF dP) 256 = KA at *
                generalize hashN (sig.take 32 ++ (key ++ msg)) = h at *
                generalize mB (byN S) = M at *
                generalize toF baseX = bx at *
                generalize toF baseY = by' at *
                generalize toF dP = d at *
                simp only [rpC] at *
                simp [h1, h2, h3]
                refine WO_callP [] rfl rfl hD (by simp) (by simp) ?_
                simp
                refine W_cut (cut_trans (cut_frz 0 rfl) (cut_frz 2 rfl)) ?_
                simp [hk, hs, kt, kt2]
                refine WO_callQ rfl hH (by simp) ?_
                simp [hk, hs, kt, kt2]
                refine WO_callP [] rfl rfl hB (by simp) (by simp) ?_
                simp
                refine WO_callP [] rfl rfl t1 (by simp) (by simp) ?_
                simp
                refine WO_callP [] rfl rfl t2 (by simp) (by simp) ?_
                simp
                refine WO_callP [] rfl rfl a1 (by simp) (by simp) ?_
                simp
                refine WO_callP [] rfl rfl s1 (by simp) (by simp) ?_
                simp
                exact fin_W (by simp)
              · simp [h1, h2, h3]
                exact fin_W (by simp [ver_no (key := key) (sig := sig) (msg := msg) (.inr (.inr (by rw [← hS]; exact h3)))])
            · simp [h1, h2]
              exact fin_W (by simp [ver_no (key := key) (sig := sig) (msg := msg) (.inr (.inl (Bool.eq_false_iff.2 h2)))])
          · simp [h1]
            exact fin_W (by simp [ver_no (key := key) (sig := sig) (msg := msg) (.inl (Bool.eq_false_iff.2 h1))])
        · have hk2 : k < S.length := by omega
          have hc : S[k]? = some S[k] := by simp
          obtain ⟨q, hq⟩ : ∃ q, q = k / 8 := ⟨_, rfl⟩
          have e1 : (k : Int).tdiv 8 = (q : Int) := by rw [hq]; rfl
          have e2 := sbN_add S k hk2
          have e3 := sbN_step (byN S) k
          rw [← hq] at e2 e3
          have e4 : IntKind.u64.wrap ((S[k].toNat : Nat) : Int) = (S[k].toNat : Nat) := by rw [wrapu64]; have := UInt8.toNat_lt S[k]; congr 1; omega
          obtain ⟨v, hv⟩ : ∃ v, v = wd (byN S) q / 256 ^ (k % 8) := ⟨_, rfl⟩
          rw [← hv] at e2 e3
          have e5 : (q : Int) < 4 := by omega
          have e6 : q < 4 := by omega
          simp [e1, hc, e2, e4, e5, e6, hk2, IntKind.bits, wrap64s (n := (q : Int)) (by omega) (by omega)]
          repeat (refine ⟨by omega, ?_⟩)
          refine ⟨⟨k, by omega⟩, by simp, ?_⟩
          exact cut_w (by simp [e3, A4, R4, wrap64s (n := (k : Int) - 1) (by omega) (by omega)])
end Go.Proofs.YthgibibeoapfbaaGreat
namespace Go.Proofs.YthgibibeoapfbaaGreat
open Go Go.Fw
attribute [local irreducible] W WX WR WO WS WSr WH WHA WG WC FSpec
attribute [local simp] WS_at_map WSr_at_map loadWP splice_full Int.natCast_inj
end Go.Proofs.YthgibibeoapfbaaGreat
namespace Go.Proofs.YthgibibeoapfbaaGreat
open Go Go.Fw
attribute [local irreducible] W WX WR WO WS WSr WH WHA WG WC FSpec
attribute [local simp] WS_at_map WSr_at_map loadWP splice_full Int.natCast_inj
end Go.Proofs.YthgibibeoapfbaaGreat
namespace Go.Proofs.YthgibibeoapfbaaGreat
open Go Go.Fw
attribute [local irreducible] W WX WR WO WS WSr WH WHA WG WC FSpec
attribute [local simp] WS_at_map WSr_at_map WS_at_arr WSr_at_arr loadWP splice_full Int.natCast_inj arr_set arr_take
set_option maxHeartbeats 2000000 in
theorem fSum3_own {m : Nat} (F : Sha m) (hm : OkM m) (hF : OkF F) (b : List UInt8) (md : Md) (hb : b.length < 2 ^ 40) : FSpec Tryz.prog 33 [.agg (frm F), .list 1 md (b.map bv)] [] (.slice 1 0 0 m none) [some ⟨(dgst F b).map bv, 5, false⟩] := by
  obtain ⟨sz, hsz⟩ : ∃ sz, sz = m / 8 := ⟨_, rfl⟩
  have hms : (m = 32 ∧ sz = 4) ∨ (m = 64 ∧ sz = 8) := by rcases hm with h | h <;> omega
  have e8 : (m : Int).tdiv 8 = (sz : Int) := by rw [hsz]; rfl
  obtain ⟨L, hL⟩ : ∃ L, L = b.length := ⟨_, rfl⟩
  obtain ⟨z, hz⟩ : ∃ z, z = zN (2 * m) (14 * (m / 8)) (L % (2 * m)) := ⟨_, rfl⟩
  have hzl : z < 2 * m := by rw [hz]; exact zN_lt _ _ _ (by omega)
  refine FSpec.of_W fSum3_low (by simp) ?_
  simp only [initEnv]
  simp [frm, e8, wrap64s (n := (sz : Int)) (by omega) (by omega), List.take_of_length_le]
  refine ⟨by omega, by omega, ?_⟩
  refine W_loop (X := { j : Nat // j ≤ z }) (fun j => [(1, .list 1 md (b.map bv)), (2, .ptr 0 0), (5, .int .i64 sz), (6, .slice 1 1 0 (L + 1 + j.1) none)])
    (fun j => [some ⟨frm F, 85, true⟩, some ⟨(b ++ 128 :: List.replicate j.1 0).map bv, 5, false⟩]) (fun j => z - j.1) ⟨0, by omega⟩ retPost_le ?_ ?_
  · refine cut_rw [0, 2] (by simp) rfl (by simp [hL]) ?_
    simp [frm]
  rintro ⟨j, hj⟩
  have hzj := zN_ok hm L j (by omega)
  rw [← hz, ← hsz] at hzj
  obtain ⟨w, hw⟩ : ∃ w, w = L + 1 + j := ⟨_, rfl⟩
  obtain ⟨B, hB⟩ : ∃ B, B = 16 * sz := ⟨_, rfl⟩
  obtain ⟨T, hT⟩ : ∃ T, T = 14 * sz := ⟨_, rfl⟩
  obtain ⟨v, hv⟩ : ∃ v, v = w % B := ⟨_, rfl⟩
  have e1 : IntKind.i64.wrap (16 * (sz : Int)) = (B : Int) := by rw [wrap64s (by omega) (by omega)]; omega
  have e2 : IntKind.i64.wrap (14 * (sz : Int)) = (T : Int) := by rw [wrap64s (by omega) (by omega)]; omega
  have e3 : (w : Int).tmod (B : Int) = (v : Int) := by rw [hv]; rfl
  have hvT : v = T ↔ j = z := by rw [← hzj, hv, hw, hB, hT, show 2 * m = 16 * sz by omega, Nat.add_assoc]
  simp only
  rw [← hw]
  simp [e1, e2, e3, show ¬ (B : Int) = 0 by omega, show ¬ B = 0 by omega]
  refine WC_ndec (fun h => ?_) (fun h => ?_)
  · have hjl : j < z := by omega
    simp
    refine ⟨by omega, ⟨j + 1, by omega⟩, by simp; omega, ?_⟩
    refine cut_rw [0, 2] (by simp) rfl (by simp; omega) ?_
    have hfl : (b.map bv ++ AV.int IntKind.u8 128 :: List.replicate j (AV.int IntKind.u8 0)).take w = b.map bv ++ AV.int IntKind.u8 128 :: List.replicate j (AV.int IntKind.u8 0) := List.take_of_length_le (by simp; omega)
    rw [hfl]
    simp [List.replicate_succ']
  have hjz : j = z := hvT.1 (by omega)
  obtain ⟨A0, hA0⟩ : ∃ A0, A0 = b ++ 128 :: List.replicate z 0 := ⟨_, rfl⟩
  have hA0l : A0.length = w := by rw [hA0]; simp; omega
  have hA0m : b.map bv ++ AV.int IntKind.u8 128 :: List.replicate z (AV.int IntKind.u8 0) = A0.map bv := by rw [hA0]; simp
  subst hjz
  simp [hA0m]
  refine W_loop (X := { i : Nat // i ≤ 2 * sz }) (fun i => [(1, .list 1 md (b.map bv)), (2, .ptr 0 0), (5, .int .i64 sz), (6, .slice 1 1 0 (A0.length + i.1) none), (7, .int .i64 i.1)])
    (fun i => [some ⟨frm F, 85, true⟩, some ⟨(A0 ++ lnB m L i.1).map bv, 5, false⟩]) (fun i => 2 * sz - i.1) ⟨0, by omega⟩ retPost_le ?_ ?_
  · exact cut_w (by simp [hA0l, lnB])
  rintro ⟨i, hi⟩
  have e4 : IntKind.i64.wrap (2 * (sz : Int)) = ((2 * sz : Nat) : Int) := by rw [wrap64s (by omega) (by omega)]; omega
  obtain ⟨S2, hS2⟩ : ∃ S2, S2 = 2 * sz := ⟨_, rfl⟩
  rw [← hS2] at e4
  simp only
  simp [e4]
  refine WC_dec (fun h => ?_) (fun h => ?_)
  · obtain ⟨at', hat⟩ : ∃ a, a = m / 4 - 1 - i := ⟨_, rfl⟩
    have e5 : IntKind.i64.wrap (IntKind.i64.wrap ((S2 : Int) - 1) - (i : Int)) = (at' : Int) := by
      rw [wrap64s (n := (S2 : Int) - 1) (by omega) (by omega), wrap64s (by omega) (by omega)]; omega
    have hls := lnB_succ m L i
    rw [← hat] at hls
    simp [e4, e5]
    refine WC_dec (fun g => ?_) (fun g => ?_)
    · have g' : at' < 8 := by omega
      obtain ⟨N8, hN8⟩ : ∃ N8, N8 = 8 * L := ⟨_, rfl⟩
      obtain ⟨a8, ha8⟩ : ∃ a8, a8 = 8 * at' := ⟨_, rfl⟩
      have e6 : IntKind.u64.wrap (IntKind.i64.wrap (8 * (L : Int))) = (N8 : Int) := by
        rw [wrap64s (by omega) (by omega), show 8 * (L : Int) = ((8 * L : Nat) : Int) by simp, wrapu64]; omega
      have e7 : IntKind.i64.wrap (8 * (at' : Int)) = (a8 : Int) := by rw [wrap64s (by omega) (by omega)]; omega
      have e9 : IntKind.u8.wrap (((N8 : Nat) : Int).fdiv (2 ^ min a8 64)) = ((UInt8.ofNat (N8 / 2 ^ a8)).toNat : Int) := by
        rw [show min a8 64 = a8 by omega, shr_nat, wrap8_u8]
      rw [if_pos g', ← hN8, ← ha8] at hls
      simp [← hL, e6, e7, e9, IntKind.bits, lnB_len]
      refine ⟨by omega, ⟨i + 1, by omega⟩, by simp; omega, ?_⟩
      refine cut_rw [0, 2] (by simp) rfl (by simp [Nat.add_assoc, wrap64s (n := (i : Int) + 1) (by omega) (by omega)]) ?_
      have hfl : (A0.map bv ++ (lnB m L i).map bv).take (A0.length + i) = A0.map bv ++ (lnB m L i).map bv := List.take_of_length_le (by simp [lnB_len])
      rw [hfl]
      simp [hls]
    · have g' : ¬ at' < 8 := by omega
      rw [if_neg g'] at hls
      simp [lnB_len]
      refine ⟨by omega, ⟨i + 1, by omega⟩, by simp; omega, ?_⟩
      refine cut_rw [0, 2] (by simp) rfl (by simp [Nat.add_assoc, wrap64s (n := (i : Int) + 1) (by omega) (by omega)]) ?_
      have hfl : (A0.map bv ++ (lnB m L i).map bv).take (A0.length + i) = A0.map bv ++ (lnB m L i).map bv := List.take_of_length_le (by simp [lnB_len])
      rw [hfl]
      simp [hls]
  have hi2 : i = 2 * sz := by omega
  obtain ⟨ALL, hALL⟩ : ∃ ALL, ALL = A0 ++ lnB m L (2 * sz) := ⟨_, rfl⟩
  have hAt : ALL = b ++ tailB m b.length := by
    rw [hALL, hA0, show 2 * sz = m / 4 by omega, lnB_all L hm, hz, hL]
    simp [tailB]
  have hAm : A0.map bv ++ (lnB m L (2 * sz)).map bv = ALL.map bv := by rw [hALL]; simp
  have hAl : ALL.length = A0.length + 2 * sz := by rw [hALL]; simp [lnB_len]
  have hmod := tail_mod hm b.length
  have hAl2 : ALL.length = b.length + (tailB m b.length).length := by rw [hAt]; simp
  subst hi2
  simp [hAm]
  refine W_loop (X := { i : Nat // i ≤ 8 }) (fun i => [(2, .ptr 0 0), (5, .int .i64 sz), (6, .slice 1 1 0 ALL.length none), (9, .slice 1 2 0 i.1 none), (10, .int .i64 i.1)])
    (fun i => [some ⟨frm F, 85, true⟩, some ⟨ALL.map bv, 5, false⟩, some ⟨(F.h0.ws.take i.1).map wV, 50, false⟩]) (fun i => 8 - i.1) ⟨0, by omega⟩ retPost_le ?_ ?_
  · refine cut_trans (cut_ghost 9 1 50 (by simp) rfl rfl) (cut_w ?_)
    simp [hAl]
  rintro ⟨i, hi⟩
  simp only
  simp
  refine WC_dec (fun h => ?_) (fun h => ?_)
  · have h8 : i < 8 := by omega
    simp
    refine WO_callP [] rfl rfl fStart_spec (by simp) (by simp) ?_
    have hS : ∃ x, shaS[i]? = some x := ⟨_, List.getElem?_eq_getElem (by rw [shaS_len]; exact h8)⟩
    obtain ⟨x, hx⟩ := hS
    have hk := hF.h0 i h8
    rw [List.getD_eq_getElem?_getD, hx, Option.getD_some] at hk
    have hcs := fConst3_spec F hm x
    rw [hk] at hcs
    simp [shaS_len, h8, hx, nV]
    refine WO_callP [] rfl rfl hcs (by simp) (by simp) ?_
    simp
    refine ⟨by omega, ⟨i + 1, by omega⟩, by simp; omega, ?_⟩
    refine cut_rw [0, 1, 3] (by simp) rfl (by simp [wrap64s (n := (i : Int) + 1) (by omega) (by omega)]) ?_
    rw [List.take_of_length_le (show ((F.h0.ws.map wV).take i).length ≤ i by simp; omega), ← wsm_take F.h0 h8]
    simp
  have : i = 8 := by omega
  subst this
  simp [wsm_all]
  refine WO_callP [] rfl rfl fWords_spec (by simp) (by simp) ?_
  simp
  obtain ⟨NB, hNB⟩ : ∃ NB, NB = ALL.length / (2 * m) := ⟨_, rfl⟩
  have hAN : ALL.length = 2 * m * NB := by
    have h1 := Nat.mod_add_div ALL.length (2 * m)
    rw [hAl2, hmod] at h1
    rw [hNB, hAl2]; omega
  refine W_loop (X := { n : Nat // n ≤ NB }) (fun n => [(2, .ptr 0 0), (5, .int .i64 sz), (6, .slice 1 1 0 ALL.length none), (9, .slice 1 2 0 8 none), (11, .list 1 ⟨false, false, false⟩ (shaW.map (nV .u64))), (12, .int .i64 (2 * m * n.1 : Nat))])
    (fun n => [some ⟨frm F, 85, true⟩, some ⟨ALL.map bv, 5, false⟩, some ⟨(runB F n.1 F.h0 ALL).ws.map wV, 50, false⟩]) (fun n => NB - n.1) ⟨0, by omega⟩ retPost_le ?_ ?_
  · exact cut_w (by simp [hAl, runB])
  rintro ⟨n, hn⟩
  obtain ⟨at0, hat0⟩ : ∃ a, a = 2 * m * n := ⟨_, rfl⟩
  simp only
  rw [← hat0]
  simp
  refine WC_dec (fun h => ?_) (fun h => ?_)
  · have hnN : n < NB := by
      refine Nat.lt_of_mul_lt_mul_left (a := 2 * m) ?_
      rw [← hat0, ← hAN]; omega
    have hfit : at0 + 2 * m ≤ ALL.length := by
      rw [hat0, hAN, ← Nat.mul_succ]; exact Nat.mul_le_mul_left _ hnN
    simp
    obtain ⟨bk, hbk⟩ : ∃ bk, bk = (ALL.drop at0).take (2 * m) := ⟨_, rfl⟩
    have hbkl : bk.length = 2 * m := by rw [hbk]; simp; omega
    have hR := hF.R
    refine W_loop (X := { i : Nat // i ≤ F.R }) (fun i => [(2, .ptr 0 0), (5, .int .i64 sz), (6, .slice 1 1 0 ALL.length none), (9, .slice 1 2 0 8 none), (11, .list 1 ⟨false, false, false⟩ (shaW.map (nV .u64))), (12, .int .i64 at0), (13, .slice 1 3 0 i.1 none), (14, .int .i64 i.1)])
      (fun i => [some ⟨frm F, 85, true⟩, some ⟨ALL.map bv, 5, false⟩, some ⟨(runB F n F.h0 ALL).ws.map wV, 50, false⟩, some ⟨(wL F bk i.1).map wV, 50, false⟩]) (fun i => F.R - i.1) ⟨0, by omega⟩ retPost_le ?_ ?_
    · refine cut_trans (cut_ghost 13 1 50 (by simp) rfl rfl) (cut_w ?_)
      simp [wL]
    rintro ⟨i, hi⟩
    have hwl := wL_length F bk i
    simp only
    simp [frm_R]
    refine WC_dec (fun g => ?_) (fun g => ?_)
    · have hiR : i < F.R := by omega
      simp
      have hwn : ∀ (x : BitVec m), wL F bk (i + 1) = wL F bk i ++ [x] → (wL F bk (i + 1)).map wV = (wL F bk i).map wV ++ [.int .u64 (wn x : Nat)] := by
        intro x hx; rw [hx]; simp [wV]
      have hwx : wL F bk (i + 1) = wL F bk i ++ [nextW F bk (wL F bk i) i] := rfl
      have hm64 : m ≤ 64 := by omega
      have hmd : 2 ^ m ∣ 2 ^ 64 := Nat.pow_dvd_pow 2 hm64
      have hp64 : 2 ^ m ≤ 2 ^ 64 := Nat.pow_le_pow_right (by decide) hm64
      obtain ⟨x16, a16⟩ : ∃ x, x = (wL F bk i).getD (i - 16) 0 := ⟨_, rfl⟩
      obtain ⟨x15, a15⟩ : ∃ x, x = (wL F bk i).getD (i - 15) 0 := ⟨_, rfl⟩
      obtain ⟨x7, a7⟩ : ∃ x, x = (wL F bk i).getD (i - 7) 0 := ⟨_, rfl⟩
      obtain ⟨x2, a2⟩ : ∃ x, x = (wL F bk i).getD (i - 2) 0 := ⟨_, rfl⟩
      obtain ⟨X, hX⟩ : ∃ X, X = if i < 16 then beN ((bk.drop (sz * i)).take sz) else (((wn x16 + wn (smallT F.s0 x15)) % 2 ^ 64 + wn x7) % 2 ^ 64 + wn (smallT F.s1 x2)) % 2 ^ 64 := ⟨_, rfl⟩
      have hXb : ∀ k, beN ((bk.drop (sz * i)).take k) < 256 ^ k := fun k => Nat.lt_of_lt_of_le (beN_lt _) (Nat.pow_le_pow_right (by decide) (by simp; omega))
      have h256 : 256 ^ sz = 2 ^ m := by rcases hms with ⟨h1, h2⟩ | ⟨h1, h2⟩ <;> rw [h1, h2]
      have hXl : X < 2 ^ 64 := by
        rw [hX]; split
        · have := hXb sz; omega
        · exact Nat.mod_lt _ (by decide)
      have hXm : X % 2 ^ m = wn (nextW F bk (wL F bk i) i) := by
        rw [hX]; simp only [nextW, ← a16, ← a15, ← a7, ← a2, ← hsz]
        split
        · simp only [wn, BitVec.toNat_ofNat]
        · rw [wn_add, wn_add, wn_add, Nat.mod_mod_of_dvd _ hmd, Nat.add_mod, Nat.mod_mod_of_dvd _ hmd, Nat.add_mod ((wn x16 + wn (smallT F.s0 x15)) % 2 ^ 64), Nat.mod_mod_of_dvd _ hmd]
          simp only [Nat.add_mod, Nat.mod_mod]
      refine WC_joinQ [(2, .ptr 0 0), (5, .int .i64 sz), (6, .slice 1 1 0 ALL.length none), (9, .slice 1 2 0 8 none), (11, .list 1 ⟨false, false, false⟩ (shaW.map (nV .u64))), (12, .int .i64 at0), (13, .slice 1 3 0 i none), (14, .int .i64 i), (15, .int .u64 (X : Nat))]
        [some ⟨frm F, 85, true⟩, some ⟨ALL.map bv, 5, false⟩, some ⟨(runB F n F.h0 ALL).ws.map wV, 50, false⟩, some ⟨(wL F bk i).map wV, 50, false⟩] ?_ ?_
      · have hcut := fCut3_spec F hm X hXl
        rw [hXm] at hcut
        simp
        refine WO_callP [] rfl rfl hcut (by simp) (by simp) ?_
        simp [hwl]
        refine ⟨by omega, ⟨i + 1, by omega⟩, by simp; omega, ?_⟩
        refine cut_rw [0, 1, 2, 4] (by simp) rfl (by simp [wrap64s (n := (i : Int) + 1) (by omega) (by omega)]) ?_
        rw [List.take_of_length_le (show ((wL F bk i).map wV).length ≤ i by simp [hwl]), ← hwn _ hwx]
        simp
      intro k' hk'
      refine WC_dec (fun h16 => ?_) (fun h16 => ?_)
      · have h16' : i < 16 := by omega
        rw [if_pos h16'] at hX
        simp
        refine W_loop (X := { k : Nat // k ≤ sz }) (fun k => [(2, .ptr 0 0), (5, .int .i64 sz), (6, .slice 1 1 0 ALL.length none), (9, .slice 1 2 0 8 none), (11, .list 1 ⟨false, false, false⟩ (shaW.map (nV .u64))), (12, .int .i64 at0), (13, .slice 1 3 0 i none), (14, .int .i64 i), (15, .int .u64 (beN ((bk.drop (sz * i)).take k.1) : Nat)), (16, .int .i64 k.1)])
          (fun _ => [some ⟨frm F, 85, true⟩, some ⟨ALL.map bv, 5, false⟩, some ⟨(runB F n F.h0 ALL).ws.map wV, 50, false⟩, some ⟨(wL F bk i).map wV, 50, false⟩]) (fun k => sz - k.1) ⟨0, by omega⟩ retPost_le ?_ ?_
        · exact cut_w (by simp [beN])
        rintro ⟨k, hk⟩
        simp only
        simp
        refine WC_dec (fun u => ?_) (fun u => ?_)
        · obtain ⟨p, hp⟩ : ∃ p, p = i * sz := ⟨_, rfl⟩
          have hp2 : p ≤ 15 * sz := by rw [hp]; exact Nat.mul_le_mul_right _ (by omega)
          obtain ⟨q, hq⟩ : ∃ q, q = at0 + p + k := ⟨_, rfl⟩
          have e1 : IntKind.i64.wrap ((i : Int) * (sz : Int)) = (p : Int) := by
            rw [← Int.natCast_mul, ← hp, wrap64s (by omega) (by omega)]
          have e2 : IntKind.i64.wrap ((at0 : Int) + (p : Int)) = ((at0 + p : Nat) : Int) := by rw [wrap64s (by omega) (by omega)]; omega
          have e3 : IntKind.i64.wrap (((at0 + p : Nat) : Int) + (k : Int)) = (q : Int) := by rw [wrap64s (by omega) (by omega)]; omega
          obtain ⟨ap, hap⟩ : ∃ ap, ap = at0 + p := ⟨_, rfl⟩
          rw [← hap] at e2 e3
          have hqA : q < ALL.length := by omega
          have gq : ALL[q]? = some ALL[q] := by simp
          have hs : beN ((bk.drop (sz * i)).take (k + 1)) = beN ((bk.drop (sz * i)).take k) * 256 + ALL[q].toNat := by
            have hpi : sz * i = p := by rw [hp, Nat.mul_comm]
            rw [List.take_succ_eq_append_getElem (by simp; omega), beN_snoc, List.getElem_drop]
            congr 2
            simp only [hbk, List.getElem_take, List.getElem_drop]
            congr 1
            omega
          have hx := ALL[q].toNat_lt
          have hv := hXb k
          have hv2 : 256 ^ (k + 1) ≤ 2 ^ 64 := by rw [← Nat.pow_mul 2 8 (k + 1)]; exact Nat.pow_le_pow_right (by decide) (by omega)
          rw [Nat.pow_succ] at hv2
          have ev : IntKind.u64.wrap (IntKind.u64.wrap ((beN ((bk.drop (sz * i)).take k) : Nat) * 256) + (ALL[q].toNat : Nat)) = (beN ((bk.drop (sz * i)).take (k + 1)) : Nat) := by
            rw [hs]
            generalize beN ((bk.drop (sz * i)).take k) = y at *
            rw [show ((y : Int) * 256) = ((y * 256 : Nat) : Int) by simp, wrapu64, Nat.mod_eq_of_lt (by omega), ← Int.natCast_add, wrapu64, Nat.mod_eq_of_lt (by omega)]
          simp [e1, e2, e3, gq, ev, wrap_b64]
          refine ⟨hqA, ⟨k + 1, by omega⟩, by simp; omega, ?_⟩
          exact cut_w (by simp [wrap64s (n := (k : Int) + 1) (by omega) (by omega)])
        · have : k = sz := by omega
          subst this
          simp
          rw [hX] at hk'
          exact hk'
      · have h16' : ¬ i < 16 := by omega
        rw [if_neg h16'] at hX
        obtain ⟨j16, h16e⟩ : ∃ j, j = i - 16 := ⟨_, rfl⟩
        obtain ⟨j15, h15e⟩ : ∃ j, j = i - 15 := ⟨_, rfl⟩
        obtain ⟨j7, h7e⟩ : ∃ j, j = i - 7 := ⟨_, rfl⟩
        obtain ⟨j2, h2e⟩ : ∃ j, j = i - 2 := ⟨_, rfl⟩
        have f16 : IntKind.i64.wrap ((i : Int) - 16) = (j16 : Int) := by rw [wrap64s (by omega) (by omega)]; omega
        have f15 : IntKind.i64.wrap ((i : Int) - 15) = (j15 : Int) := by rw [wrap64s (by omega) (by omega)]; omega
        have f7 : IntKind.i64.wrap ((i : Int) - 7) = (j7 : Int) := by rw [wrap64s (by omega) (by omega)]; omega
        have f2 : IntKind.i64.wrap ((i : Int) - 2) = (j2 : Int) := by rw [wrap64s (by omega) (by omega)]; omega
        have get : ∀ (j : Nat) (x : BitVec m), j < i → x = (wL F bk i).getD j 0 → (wL F bk i)[j]? = some x := by
          intro j x hj hx
          rw [hx, List.getD_eq_getElem?_getD, List.getElem?_eq_getElem (by omega)]; rfl
        have b16 := get j16 x16 (by omega) (by rw [h16e]; exact a16)
        have b15 := get j15 x15 (by omega) (by rw [h15e]; exact a15)
        have b7 := get j7 x7 (by omega) (by rw [h7e]; exact a7)
        have b2 := get j2 x2 (by omega) (by rw [h2e]; exact a2)
        have sm0 := fSmall3_spec F hm x15 F.s0 hF.s0.1 hF.s0.2.1 hF.s0.2.2
        have sm1 := fSmall3_spec F hm x2 F.s1 hF.s1.1 hF.s1.2.1 hF.s1.2.2
        have au : ∀ a c : Nat, IntKind.u64.wrap ((a : Nat) + (c : Nat)) = ((a + c) % 2 ^ 64 : Nat) := fun a c => by rw [← Int.natCast_add, wrapu64]
        have s1 := au (wn x16) (wn (smallT F.s0 x15))
        obtain ⟨y1, hy1⟩ : ∃ y, y = (wn x16 + wn (smallT F.s0 x15)) % 2 ^ 64 := ⟨_, rfl⟩
        rw [← hy1] at s1 hX
        have s2 := au y1 (wn x7)
        obtain ⟨y2, hy2⟩ : ∃ y, y = (y1 + wn x7) % 2 ^ 64 := ⟨_, rfl⟩
        rw [← hy2] at s2 hX
        have s3 := au y2 (wn (smallT F.s1 x2))
        rw [← hX] at s3
        simp [f16, f15, f7, f2, b16, b15, b7, b2, hwl, wV, frm_s0, frm_s1]
        refine ⟨by omega, by omega, by omega, by omega, ?_⟩
        refine WO_callP [] rfl rfl sm0 (by simp [tV]) (by simp [b16, b7, b2, wV, frm_s1]) ?_
        simp [s1, s2]
        refine WO_callP [] rfl rfl sm1 (by simp [tV]) (by simp [b16, b7, b2, wV, frm_s1]) ?_
        simp [s3]
        exact hk'
    have hiR : i = F.R := by omega
    subst hiR
    obtain ⟨hs, hhs⟩ : ∃ hs, hs = runB F n F.h0 ALL := ⟨_, rfl⟩
    have hcomp : runB F (n + 1) F.h0 ALL = hs.add (rnds F (wL F bk F.R) hs F.R) := by rw [runB_succ, ← hat0, ← hbk, ← hhs]; rfl
    rw [← hhs]
    simp [wsm_all]
    refine W_loop (X := { i : Nat // i ≤ F.R }) (fun i => [(2, .ptr 0 0), (5, .int .i64 sz), (6, .slice 1 1 0 ALL.length none), (9, .slice 1 2 0 8 none), (11, .list 1 ⟨false, false, false⟩ (shaW.map (nV .u64))), (12, .int .i64 at0), (13, .slice 1 3 0 F.R none), (17, .list 1 ⟨false, false, false⟩ ((rnds F (wL F bk F.R) hs i.1).ws.map wV)), (18, .int .i64 i.1)])
      (fun i => [some ⟨frm F, 85, true⟩, some ⟨ALL.map bv, 5, false⟩, some ⟨hs.ws.map wV, 50, false⟩, some ⟨(wL F bk F.R).map wV, 50, false⟩]) (fun i => F.R - i.1) ⟨0, by omega⟩ retPost_le ?_ ?_
    · refine cut_trans (cut_frz 4 rfl) (cut_w ?_)
      simp [rnds, wsm_all]
    rintro ⟨i, hi⟩
    simp only
    simp [frm_R]
    refine WC_dec (fun g => ?_) (fun g => ?_)
    · have hiR : i < F.R := by omega
      have hm64 : m ≤ 64 := by omega
      obtain ⟨W, hW⟩ : ∃ W, W = wL F bk F.R := ⟨_, rfl⟩
      rw [← hW] at hwl hcomp ⊢
      obtain ⟨w, hw'⟩ : ∃ w, w = W.getD i 0 := ⟨_, rfl⟩
      have gw : W[i]? = some w := by rw [hw', List.getD_eq_getElem?_getD, List.getElem?_eq_getElem (by omega)]; rfl
      have hk80 : ∃ x, shaW[i]? = some x := ⟨_, List.getElem?_eq_getElem (by rw [shaW_len]; omega)⟩
      obtain ⟨kv, hkv⟩ := hk80
      have hkc := hF.k i hiR
      rw [List.getD_eq_getElem?_getD, hkv, Option.getD_some] at hkc
      have hcs := fConst3_spec F hm kv
      rw [hkc] at hcs
      obtain ⟨kk, hkk⟩ : ∃ kk, kk = F.k i := ⟨_, rfl⟩
      have hr : rnds F W hs (i + 1) = rnd F (F.k i) (W.getD i 0) (rnds F W hs i) := rfl
      rw [← hkk] at hcs hr
      rw [← hw'] at hr
      obtain ⟨⟨sa, sb, sc, sd, se, sf, sg, sh⟩, hS⟩ : ∃ st, st = rnds F W hs i := ⟨_, rfl⟩
      rw [← hS] at hr ⊢
      have andm : ∀ x y : BitVec m, bitI .and .u64 (wn x : Nat) (wn y : Nat) = (wn (x &&& y) : Nat) := fun x y => wx_and rfl hm64 x y
      have orm : ∀ x y : BitVec m, bitI .or .u64 (wn x : Nat) (wn y : Nat) = (wn (x ||| y) : Nat) := fun x y => wx_or rfl hm64 x y
      have au : ∀ a c : Nat, IntKind.u64.wrap ((a : Nat) + (c : Nat)) = ((a + c) % 2 ^ 64 : Nat) := fun a c => by rw [← Int.natCast_add, wrapu64]
      have hnr := not_raw se hm64
      obtain ⟨nse, hnse⟩ : ∃ v, v = (2 ^ 64 - 1) ^^^ wn se := ⟨_, rfl⟩
      have hcn := fCut3_spec F hm nse (by rw [hnse]; exact Nat.xor_lt_two_pow (by decide) (Nat.lt_of_lt_of_le (wn_lt se) (Nat.pow_le_pow_right (by decide) hm64)))
      rw [hnse, not_val hm64] at hcn
      rw [← hnse] at hcn hnr
      simp [St8.ws, wV, andm, hnr]
      refine WO_callP [] rfl rfl hcn (by simp) (by simp) ?_
      simp [andm, orm, ch_or, mj_or, frm_E, hkv, gw, nV, wV]
      obtain ⟨cE, hcE⟩ : ∃ x, x = bigT F.E se := ⟨_, rfl⟩
      obtain ⟨cA, hcA⟩ : ∃ x, x = bigT F.A sa := ⟨_, rfl⟩
      obtain ⟨ch, hch⟩ : ∃ x, x = (se &&& sf) ^^^ (~~~se &&& sg) := ⟨_, rfl⟩
      obtain ⟨mj, hmj⟩ : ∃ x, x = (sa &&& sb) ^^^ (sa &&& sc) ^^^ (sb &&& sc) := ⟨_, rfl⟩
      have hr2 : rnds F W hs (i + 1) = ⟨sh + cE + ch + kk + w + cA + mj, sa, sb, sc, sd + (sh + cE + ch + kk + w), se, sf, sg⟩ := by rw [hr, hcE, hcA, hch, hmj]; rfl
      have bE := fBig3_spec F hm se F.E hF.E.1 hF.E.2.1 hF.E.2.2
      have bA := fBig3_spec F hm sa F.A hF.A.1 hF.A.2.1 hF.A.2.2
      rw [← hcE] at bE
      rw [← hcA] at bA
      rw [← hch, ← hmj]
      have s1 := au (wn sh) (wn cE)
      obtain ⟨y1, hy1⟩ : ∃ y, y = (wn sh + wn cE) % 2 ^ 64 := ⟨_, rfl⟩
      rw [← hy1] at s1
      have s2 := au y1 (wn ch)
      obtain ⟨y2, hy2⟩ : ∃ y, y = (y1 + wn ch) % 2 ^ 64 := ⟨_, rfl⟩
      rw [← hy2] at s2
      have s3 := au y2 (wn kk)
      obtain ⟨y3, hy3⟩ : ∃ y, y = (y2 + wn kk) % 2 ^ 64 := ⟨_, rfl⟩
      rw [← hy3] at s3
      have s4 := au y3 (wn w)
      obtain ⟨y4, hy4⟩ : ∃ y, y = (y3 + wn w) % 2 ^ 64 := ⟨_, rfl⟩
      rw [← hy4] at s4
      have s5 := au (wn cA) (wn mj)
      obtain ⟨y5, hy5⟩ : ∃ y, y = (wn cA + wn mj) % 2 ^ 64 := ⟨_, rfl⟩
      rw [← hy5] at s5
      have s6 := au y4 y5
      obtain ⟨y6, hy6⟩ : ∃ y, y = (y4 + y5) % 2 ^ 64 := ⟨_, rfl⟩
      rw [← hy6] at s6
      have s7 := au (wn sd) y4
      obtain ⟨y7, hy7⟩ : ∃ y, y = (wn sd + y4) % 2 ^ 64 := ⟨_, rfl⟩
      rw [← hy7] at s7
      have c6 := fCut3_spec F hm y6 (by rw [hy6]; exact Nat.mod_lt _ (by decide))
      have c7 := fCut3_spec F hm y7 (by rw [hy7]; exact Nat.mod_lt _ (by decide))
      have v6 : y6 % 2 ^ m = wn (sh + cE + ch + kk + w + cA + mj) := by
        rw [hy6, hy5, hy4, hy3, hy2, hy1, sum_cut hm, wn_add, wn_add, wn_add, wn_add, wn_add, wn_add]
      have v7 : y7 % 2 ^ m = wn (sd + (sh + cE + ch + kk + w)) := by
        rw [hy7, hy4, hy3, hy2, hy1, sum_cut2 hm, wn_add, wn_add, wn_add, wn_add, wn_add]
      rw [v6] at c6
      rw [v7] at c7
      refine ⟨by rw [shaW_len]; omega, by omega, by omega, ?_⟩
      refine WO_callP [] rfl rfl bE (by simp [tV]) (by simp [hkv, gw, nV, wV]) ?_
      simp [s1, s2]
      refine WO_callP [] rfl rfl hcs (by simp) (by simp [hkv, gw, nV, wV]) ?_
      simp [s3, s4, frm_A]
      refine WO_callP [] rfl rfl bA (by simp [tV]) (by simp) ?_
      simp [s5, s6]
      refine WO_callP [] rfl rfl c6 (by simp) (by simp) ?_
      simp [s7]
      refine WO_callP [] rfl rfl c7 (by simp) (by simp) ?_
      simp
      refine ⟨⟨i + 1, by omega⟩, by simp; omega, ?_⟩
      exact cut_w (by simp [hr2, St8.ws, wV, wrap64s (n := (i : Int) + 1) (by omega) (by omega)])
    have hiR : i = F.R := by omega
    subst hiR
    obtain ⟨st, hst⟩ : ∃ st, st = rnds F (wL F bk F.R) hs F.R := ⟨_, rfl⟩
    rw [← hst] at hcomp ⊢
    simp
    refine W_loop (X := { i : Nat // i ≤ 8 }) (fun i => [(2, .ptr 0 0), (5, .int .i64 sz), (6, .slice 1 1 0 ALL.length none), (9, .slice 1 2 0 8 none), (11, .list 1 ⟨false, false, false⟩ (shaW.map (nV .u64))), (12, .int .i64 at0), (17, .list 1 ⟨false, false, false⟩ (st.ws.map wV)), (23, .int .i64 i.1)])
      (fun i => [some ⟨frm F, 85, true⟩, some ⟨ALL.map bv, 5, false⟩, some ⟨(hX i.1 hs st).map wV, 50, false⟩]) (fun i => 8 - i.1) ⟨0, by omega⟩ retPost_le ?_ ?_
    · exact cut_w (by simp [hX_zero])
    rintro ⟨i, hi⟩
    simp only
    simp
    refine WC_dec (fun g => ?_) (fun g => ?_)
    · have h8 : i < 8 := by omega
      have g1 := hX_at hs st h8
      have g2 := ws_at st h8
      have g3 := hX_set hs st h8
      have au : IntKind.u64.wrap ((wn (hs.at i) : Nat) + (wn (st.at i) : Nat)) = ((wn (hs.at i) + wn (st.at i)) % 2 ^ 64 : Nat) := by rw [← Int.natCast_add, wrapu64]
      obtain ⟨y, hy⟩ : ∃ y, y = (wn (hs.at i) + wn (st.at i)) % 2 ^ 64 := ⟨_, rfl⟩
      rw [← hy] at au
      have hc := fCut3_spec F hm y (by rw [hy]; exact Nat.mod_lt _ (by decide))
      rw [hy, sum_cut3 hm, ← wn_add] at hc
      rw [← hy] at hc
      obtain ⟨u, hu⟩ : ∃ u, u = wn (hs.at i + st.at i) := ⟨_, rfl⟩
      rw [← hu] at hc g3
      obtain ⟨p1, hp1⟩ : ∃ p1, p1 = hs.at i := ⟨_, rfl⟩
      obtain ⟨p2, hp2⟩ : ∃ p2, p2 = st.at i := ⟨_, rfl⟩
      rw [← hp1] at g1 au
      rw [← hp2] at g2 au
      have g1' : ∀ (h : i < (hX i hs st).length), (hX i hs st)[i] = p1 := fun h => by rw [List.getElem?_eq_getElem h] at g1; exact Option.some.inj g1
      have g2' : ∀ (h : i < st.ws.length), st.ws[i] = p2 := fun h => by rw [List.getElem?_eq_getElem h] at g2; exact Option.some.inj g2
      simp [g1', g2', wV, au, h8, g]
      refine WO_callP [] rfl rfl hc (by simp) (by simp) ?_
      simp [g3, h8, g]
      refine ⟨by omega, ⟨i + 1, by omega⟩, by simp; omega, ?_⟩
      exact cut_w (by simp [wrap64s (n := (i : Int) + 1) (by omega) (by omega)])
    have hi8 : i = 8 := by omega
    subst hi8
    have eAt : IntKind.i64.wrap ((at0 : Int) + IntKind.i64.wrap (16 * (sz : Int))) = ((2 * m * (n + 1) : Nat) : Int) := by
      rw [e1, Nat.mul_succ, ← hat0, wrap64s (by omega) (by omega)]; omega
    simp [hX_eight]
    refine ⟨⟨n + 1, by omega⟩, by simp; omega, ?_⟩
    simp at eAt
    exact cut_w (by simp [hcomp, eAt])
  have hnN : n = NB := by
    have h1 : ALL.length ≤ at0 := by omega
    rw [hAN, hat0] at h1
    have h2 := Nat.le_of_mul_le_mul_left h1 (by omega)
    omega
  subst hnN
  have hdg : dgst F b = dgB (runB F n F.h0 ALL) := by
    rw [dgst, hst, ← hAt, ← hNB]
  obtain ⟨S, hS⟩ : ∃ S, S = runB F n F.h0 ALL := ⟨_, rfl⟩
  rw [← hS] at hdg ⊢
  rw [hdg]
  simp
  refine W_loop (X := { i : Nat // i ≤ 8 }) (fun i => [(5, .int .i64 sz), (9, .slice 1 0 0 8 none), (24, .slice 1 1 0 (sz * i.1) none), (25, .int .i64 i.1)])
    (fun i => [some ⟨S.ws.map wV, 50, false⟩, some ⟨((dgB S).take (sz * i.1)).map bv, 5, false⟩]) (fun i => 8 - i.1) ⟨0, by omega⟩ retPost_le ?_ ?_
  · refine cut_trans (cut_ghost 24 1 5 (by simp) rfl rfl) ?_
    refine cut_rw [2, 3] (by simp) rfl (by simp) ?_
    simp
  rintro ⟨i, hi⟩
  simp only
  simp
  refine WC_dec (fun g => ?_) (fun g => ?_)
  · have h8 : i < 8 := by omega
    simp
    refine W_loop (X := { k : Nat // k ≤ sz }) (fun k => [(5, .int .i64 sz), (9, .slice 1 0 0 8 none), (24, .slice 1 1 0 (sz * i + k.1) none), (25, .int .i64 i), (26, .int .i64 ((sz : Int) - 1 - (k.1 : Int)))])
      (fun k => [some ⟨S.ws.map wV, 50, false⟩, some ⟨((dgB S).take (sz * i + k.1)).map bv, 5, false⟩]) (fun k => sz - k.1) ⟨0, by omega⟩ retPost_le ?_ ?_
    · exact cut_w (by simp [wrap64s (n := (sz : Int) - 1) (by omega) (by omega)])
    rintro ⟨k, hk⟩
    simp only
    simp
    refine WC_dec (fun u => ?_) (fun u => ?_)
    · have hks : k < sz := by omega
      obtain ⟨nn, hnn⟩ : ∃ nn, nn = sz - 1 - k := ⟨_, rfl⟩
      have f1 : (sz : Int) - 1 - (k : Int) = (nn : Int) := by omega
      obtain ⟨n8, hn8⟩ : ∃ n8, n8 = 8 * nn := ⟨_, rfl⟩
      have f2 : IntKind.i64.wrap (8 * (nn : Int)) = (n8 : Int) := by rw [wrap64s (by omega) (by omega)]; omega
      obtain ⟨p, hp⟩ : ∃ p, p = sz * i + k := ⟨_, rfl⟩
      have hpd : p / sz = i := by rw [hp, Nat.mul_add_div (by omega), Nat.div_eq_of_lt hks, Nat.add_zero]
      have hpm : p % sz = k := by rw [hp, Nat.mul_add_mod, Nat.mod_eq_of_lt hks]
      have hpl : p < m := by
        have : sz * i ≤ sz * 7 := Nat.mul_le_mul_left _ (by omega)
        omega
      have f3 : IntKind.u8.wrap (((wn (S.at i) : Nat) : Int).fdiv (2 ^ min n8 64)) = ((UInt8.ofNat (dgN S p)).toNat : Int) := by
        rw [show min n8 64 = n8 by omega, shr_nat, wrap8_u8]
        simp only [dgN, ← hsz, hpd, hpm, show m - 8 - 8 * k = n8 by omega]
        rw [UInt8.toNat_ofNat', UInt8.toNat_ofNat', Nat.mod_mod]
      have ht := dgB_take S hpl
      have g2 := ws_at S h8
      obtain ⟨p2, hp2⟩ : ∃ p2, p2 = S.at i := ⟨_, rfl⟩
      rw [← hp2] at g2 f3
      have g2' : ∀ (h : i < S.ws.length), S.ws[i] = p2 := fun h => by rw [List.getElem?_eq_getElem h] at g2; exact Option.some.inj g2
      have hdl : (dgB S).length = m := by simp [dgB]
      rw [← hp]
      simp [f1, f2, g2', wV, h8, f3, IntKind.bits]
      have htm := congrArg (List.map bv) ht
      simp at htm
      have f4 : IntKind.i64.wrap ((nn : Int) - 1) = (sz : Int) - 1 - ((k : Int) + 1) := by rw [wrap64s (by omega) (by omega)]; omega
      refine ⟨g, by rw [hdl]; omega, ⟨k + 1, by omega⟩, by simp; omega, ?_⟩
      refine cut_rw [0, 2] (by simp) rfl (by simp [f4, hp, Nat.add_assoc]) ?_
      rw [List.take_take, Nat.min_self, ← htm]
      simp [hp, Nat.add_assoc]
    · have : k = sz := by omega
      subst this
      simp
      refine ⟨⟨i + 1, by omega⟩, by simp; omega, ?_⟩
      exact cut_w (by simp [Nat.mul_succ, wrap64s (n := (i : Int) + 1) (by omega) (by omega)])
  have hi8 : i = 8 := by omega
  subst hi8
  have hdl : (dgB S).length = m := by simp [dgB]
  simp
  rw [List.take_of_length_le (by simp [hdl]; omega)]
  have h8m : sz * 8 = m := by omega
  rw [h8m]
  exact fin_R [1] (by simp) rfl (by simp) (H1 := [some ⟨(dgB S).map bv, 5, false⟩]) (by simp) (fin_W (by simp))
end Go.Proofs.YthgibibeoapfbaaGreat
namespace Go.Proofs.YthgibibeoapfbaaGreat
open Go Go.Fw
attribute [local irreducible] W WX WR WO WS WSr WH WHA WG WC FSpec
attribute [local simp] WS_at_map WSr_at_map WS_at_q4 WSr_at_q4 WS_at_arr WSr_at_arr loadWP splice_full Int.natCast_inj arr_set
def clampL (h : List UInt8) : List UInt8 := (h.set 0 (h.getD 0 0 &&& 248)).set 31 ((h.getD 31 0 &&& 63) + 64)
theorem clampL_len (h : List UInt8) : (clampL h).length = h.length := by simp [clampL]
theorem clamp0 (x : UInt8) : bitI .andNot .u8 (x.toNat : Nat) 7 = ((x &&& 248).toNat : Nat) := by
  have h : ∀ y : UInt8, bitI .andNot .u8 (y.toNat : Nat) 7 = ((y &&& 248).toNat : Nat) := by
    intro ⟨⟨⟨n, hn⟩⟩⟩
    revert n
    decide +kernel
  exact h x
theorem clamp31 (x : UInt8) : IntKind.u8.wrap (bitI .and .u8 (x.toNat : Nat) 63 + 64) = (((x &&& 63) + 64).toNat : Nat) := by
  have h : ∀ y : UInt8, IntKind.u8.wrap (bitI .and .u8 (y.toNat : Nat) 63 + 64) = (((y &&& 63) + 64).toNat : Nat) := by
    intro ⟨⟨⟨n, hn⟩⟩⟩
    revert n
    decide +kernel
  exact h x
set_option maxRecDepth 100000 in
set_option maxHeartbeats 4000000 in
theorem fRSgSecret_spec (s : List UInt8) (hs : s.length = 32) : FSpec Tryz.prog 14 [.agg (s.map bv)] [] (.tuple [.agg (q4 (byN ((clampL (dgst F64 s)).take 32))), .list 1 ⟨false, false, false⟩ (((dgst F64 s).drop 32).map bv)]) [] := by
  have hD := fSum3_own F64 (.inr rfl) okF64 s ⟨false, true, false⟩ (by omega)
  have hl : (dgst F64 s).length = 64 := by simp
  generalize dgst F64 s = D at *
  have kt : List.take 32 (s.map bv) = s.map bv := List.take_of_length_le (by simp [hs])
  have hc0 : D[0]? = some D[0] := by simp
  have hc31 : D[31]? = some D[31] := by simp
  have g0 : D.getD 0 0 = D[0] := by simp [hl]
  have g31 : D.getD 31 0 = D[31] := by simp [hl]
  have b0 := clamp0 D[0]
  have b31 := clamp31 D[31]
  have hcl : ((D.map bv).set 0 (bv (D[0] &&& 248))).set 31 (bv ((D[31] &&& 63) + 64)) = (clampL D).map bv := by
    unfold clampL; rw [g0, g31, List.map_set, List.map_set]
  have hCl := clampL_len D
  simp only [bv] at hcl
  generalize D[0] &&& 248 = c0 at *
  generalize (D[31] &&& 63) + 64 = c31 at *
  have hat : atF ((D.map bv).set 0 (.int .u8 c0.toNat)) 31 = ok1 (.int .u8 D[31].toNat) := by simp [atF, hc31, bv]
  refine FSpec.of_W fRSgSecret_low (by simp) ?_
  simp only [initEnv]
  simp [hs, kt]
  refine W_cut (cut_frz 0 rfl) ?_
  simp [hs, kt]
  refine WO_callP [] rfl rfl fLong_spec (by simp) (by simp [hs, kt]) ?_
  simp
  refine WO_callF [] (as' := [.agg (frm F64), .list 1 ⟨false, true, false⟩ (s.map bv)]) rfl (by simp) hD (by simp) (by simp) (by simp [hs, kt]) ?_
  simp [hl, hc0, b0, hat, b31, hcl]
  have hdr : List.drop 32 ((clampL D).map bv) = List.drop 32 (D.map bv) := by
    unfold clampL
    simp only [List.map_set]
    rw [List.drop_set_of_lt (by decide), List.drop_set_of_lt (by decide)]
  generalize clampL D = C at *
  have hC : C.length = 64 := by omega
  obtain ⟨T, hT⟩ : ∃ T, T = C.take 32 := ⟨_, rfl⟩
  rw [← hT]
  have hTl : T.length = 32 := by rw [hT]; simp [hC]
  refine W_loop (X := { k : Nat // k ≤ 32 }) (fun i => [(2, .ptr 1 0), (4, .slice 1 2 0 64 none), (5, .ptr 3 0), (6, .int .i64 ((i.1 : Int) - 1))])
    (fun i => [none, some ⟨q4 0, 51, true⟩, some ⟨C.map bv, 5, false⟩, some ⟨arr .u64 4 (sbN (byN T) i.1), 51, true⟩]) (fun i => i.1) ⟨32, by omega⟩ retPost_le ?_ ?_
  · exact cut_w (by simp [sbN_top, q4_zero])
  · rintro ⟨i, hi⟩
    obtain _ | k := i
    · simp [sbN_zero, hC]
      have hdt : List.take 32 (List.drop 32 (C.map bv)) = List.drop 32 (D.map bv) := by rw [← hdr]; exact List.take_of_length_le (by simp [hC])
      refine fin_F 2 rfl (fin_W ?_)
      simp [hdt, hC]
    · have hk : k < T.length := by omega
      have hk2 : k < C.length := by omega
      have hc : C[k]? = some T[k] := by
        have : T[k] = C[k] := by simp only [hT, List.getElem_take]
        rw [this]; simp
      obtain ⟨q, hq⟩ : ∃ q, q = k / 8 := ⟨_, rfl⟩
      have e1 : (k : Int).tdiv 8 = (q : Int) := by rw [hq]; rfl
      have e2 := sbN_add T k hk
      have e3 := sbN_step (byN T) k
      rw [← hq] at e2 e3
      have e4 : IntKind.u64.wrap ((T[k].toNat : Nat) : Int) = (T[k].toNat : Nat) := by rw [wrapu64]; have := UInt8.toNat_lt T[k]; congr 1; omega
      obtain ⟨v, hv⟩ : ∃ v, v = wd (byN T) q / 256 ^ (k % 8) := ⟨_, rfl⟩
      rw [← hv] at e2 e3
      have e5 : (q : Int) < 4 := by omega
      have e6 : q < 4 := by omega
      generalize T[k] = tk at *
      simp [e1, hc, e2, e4, e5, e6, hC, IntKind.bits, wrap64s (n := (q : Int)) (by omega) (by omega)]
      repeat (refine ⟨by omega, ?_⟩)
      refine ⟨⟨k, by omega⟩, by simp, ?_⟩
      exact cut_w (by simp [e3, wrap64s (n := (k : Int) - 1) (by omega) (by omega)])
end Go.Proofs.YthgibibeoapfbaaGreat
namespace Go.Proofs.YthgibibeoapfbaaGreat
open Go Go.Fw
attribute [local irreducible] W WX WR WO WS WSr WH WHA WG WC FSpec
attribute [local simp] WS_at_map WSr_at_map loadWP splice_full Int.natCast_inj q17_d q17_t q17_t0 q17_d34 q17_t51 q17_s0 q17_s17 q17_s34 hk17
def secN (s : List UInt8) : Nat := byN ((clampL (dgst F64 s)).take 32)
theorem secN_lt (s : List UInt8) : secN s < 2 ^ 256 := by
  have := byN_lt ((clampL (dgst F64 s)).take 32)
  rw [show ((clampL (dgst F64 s)).take 32).length = 32 by simp [clampL_len]] at this
  exact this
noncomputable def ptB (n : Nat) : List UInt8 := enc32 (Cv.smul n P0).x (Cv.smul n P0).y
theorem ptB_len (n : Nat) : (ptB n).length = 32 := enc32_len _ _
theorem enc_mB {n : Nat} (hn : n < 2 ^ 256) : FSpec Tryz.prog 15 [.agg (rpC (mB n))] [] (.agg ((ptB n).map bv)) [] := by
  have h := fRCvEncode_spec (mB n)
  rw [affR_rep (mB_rep hn)] at h
  exact h
set_option maxRecDepth 100000 in
set_option maxHeartbeats 4000000 in
theorem fRSgPublic_spec (s : List UInt8) (hs : s.length = 32) : FSpec Tryz.prog 5 [.agg (s.map bv)] [] (.agg ((ptB (secN s)).map bv)) [] := by
  have hS := fRSgSecret_spec s hs
  rw [show byN ((clampL (dgst F64 s)).take 32) = secN s from rfl] at hS
  have hn := secN_lt s
  have hE := enc_mB hn
  have kt : List.take 32 (s.map bv) = s.map bv := List.take_of_length_le (by simp [hs])
  have hB := fRCvBase_spec
  have hD := fRCvD_spec
  have t1 := fRCvTimes_spec ⟨toF baseX, toF baseY, 1⟩ (secN s) (toF dP)
  rw [show timesR ⟨toF baseX, toF baseY, 1⟩ (secN s) (toF dP) 256 = mB (secN s) from rfl] at t1
  have hdl : (dgst F64 s).length = 64 := by simp
  have hpl := ptB_len (secN s)
  generalize secN s = n at *
  generalize dgst F64 s = G at *
  generalize ptB n = p at *
  generalize mB n = M at *
  generalize toF baseX = bx at *
  generalize toF baseY = by' at *
  generalize toF dP = d at *
  simp only [rpC] at hB t1 hE
  simp only [List.map_drop] at hS
  have pt : List.take 32 (p.map bv) = p.map bv := List.take_of_length_le (by simp [hpl])
  refine FSpec.of_W fRSgPublic_low (by simp) ?_
  simp only [initEnv]
  simp [hs, kt]
  refine WO_callP [] rfl rfl hS (by simp) (by simp [hs]) ?_
  simp
  refine WO_callP [] rfl rfl hB (by simp) (by simp) ?_
  simp
  refine WO_callP [] rfl rfl hD (by simp) (by simp) ?_
  simp
  refine WO_callP [] rfl rfl t1 (by simp) (by simp) ?_
  simp
  refine WO_callP [] rfl rfl hE (by simp) (by simp) ?_
  simp [hpl, pt]
  exact fin_W (by simp)
end Go.Proofs.YthgibibeoapfbaaGreat
namespace Go.Proofs.YthgibibeoapfbaaGreat
open Go Go.Fw
attribute [local irreducible] W WX WR WO WS WSr WH WHA WG WC FSpec
attribute [local simp] WS_at_map WSr_at_map loadWP splice_full Int.natCast_inj
def sgS (n r k : Nat) : Nat := (r + k * (n % Lq) % Lq) % Lq
end Go.Proofs.YthgibibeoapfbaaGreat
namespace Go.Proofs.YthgibibeoapfbaaGreat
open Go Go.Fw
attribute [local irreducible] W WX WR WO WS WSr WH WHA WG WC FSpec
attribute [local simp] WS_at_map WSr_at_map WS_at_q4 WSr_at_q4 WS_at_arr WSr_at_arr loadWP splice_full Int.natCast_inj q17_d q17_t q17_t0 q17_d34 q17_t51 q17_s0 q17_s17 q17_s34 hk17
def sgR (s msg : List UInt8) : Nat := hashN ((dgst F64 s).drop 32 ++ msg)
noncomputable def sgL (s msg : List UInt8) : List UInt8 := ptB (sgR s msg) ++ byL 32 (sgS (secN s) (sgR s msg) (hashN (ptB (sgR s msg) ++ (ptB (secN s) ++ msg))))
def twoF (a b : List UInt8) (i k : Nat) : Nat := if k < 32 then (if k < i then (a.getD k 0).toNat else 0) else if k < 32 + i then (b.getD (k - 32) 0).toNat else 0
theorem twoF_zero (a b : List UInt8) : twoF a b 0 = fun _ => 0 := by
  funext k; unfold twoF; split
  · simp
  · first | rfl | rw [if_neg (by omega)]
theorem twoF_step (a b : List UInt8) (i : Nat) (h : i < 32) : upd (upd (twoF a b i) i (a.getD i 0).toNat) (32 + i) (b.getD i 0).toNat = twoF a b (i + 1) := by
  funext k
  unfold upd twoF
  by_cases h1 : k = 32 + i
  · subst h1
    rw [if_pos rfl, if_neg (by omega), if_pos (by omega), show 32 + i - 32 = i by omega]
  · rw [if_neg h1]
    by_cases h2 : k = i
    · subst h2
      rw [if_pos rfl, if_pos h, if_pos (by omega)]
    · rw [if_neg h2]
      by_cases h3 : k < 32
      · rw [if_pos h3, if_pos h3]
        by_cases h4 : k < i
        · rw [if_pos h4, if_pos (by omega)]
        · rw [if_neg h4, if_neg (by omega)]
      · rw [if_neg h3, if_neg h3]
        by_cases h4 : k < 32 + i
        · rw [if_pos h4, if_pos (by omega)]
        · rw [if_neg h4, if_neg (by omega)]
theorem twoF_all {a b : List UInt8} (ha : a.length = 32) (hb : b.length = 32) : arr .u8 64 (twoF a b 32) = (a ++ b).map bv := by
  refine List.ext_getElem (by simp [ha, hb]) fun k h1 h2 => ?_
  simp only [arr_length] at h1
  simp only [arr_getElem, List.getElem_map, bv, twoF]
  by_cases h : k < 32
  · rw [if_pos h, if_pos h, List.getElem_append_left (by omega)]
    simp [ha, h]
  · rw [if_neg h, if_pos (by omega), List.getElem_append_right (by omega)]
    have : k - 32 < b.length := by omega
    simp [ha, this]
set_option maxRecDepth 100000 in
set_option maxHeartbeats 4000000 in
theorem fRSgSign_spec (s msg : List UInt8) (md : Md) (hs : s.length = 32) (hm : msg.length < 2 ^ 39) : FSpec Tryz.prog 6 [.agg (s.map bv), .list 1 md (msg.map bv)] [] (.agg ((sgL s msg).map bv)) [] := by
  have hS := fRSgSecret_spec s hs
  rw [show byN ((clampL (dgst F64 s)).take 32) = secN s from rfl] at hS
  have hP := fRSgPublic_spec s hs
  have hn := secN_lt s
  have hrl : sgR s msg < Lq := Nat.mod_lt _ (by decide)
  have hr : sgR s msg < 2 ^ 256 := Nat.lt_trans hrl (Nat.lt_trans Lq_lt (by decide))
  have hH1 := fRSgHash_spec [(⟨false, false, false⟩, (dgst F64 s).drop 32), (md, msg)] ⟨false, true, false⟩ (by simp [allB]; omega) (by simp)
  rw [show allB [(⟨false, false, false⟩, (dgst F64 s).drop 32), (md, msg)] = (dgst F64 s).drop 32 ++ msg by simp [allB], show hashN ((dgst F64 s).drop 32 ++ msg) = sgR s msg from rfl] at hH1
  have hE := enc_mB hr
  have hB := fRCvBase_spec
  have hD := fRCvD_spec
  have t1 := fRCvTimes_spec ⟨toF baseX, toF baseY, 1⟩ (sgR s msg) (toF dP)
  rw [show timesR ⟨toF baseX, toF baseY, 1⟩ (sgR s msg) (toF dP) 256 = mB (sgR s msg) from rfl] at t1
  have kl := ptB_len (secN s)
  have rl := ptB_len (sgR s msg)
  have hH2 := fRSgHash_spec [(⟨false, true, false⟩, ptB (sgR s msg)), (⟨false, true, false⟩, ptB (secN s)), (md, msg)] ⟨false, true, false⟩ (by simp [allB, kl, rl]; omega) (by simp)
  rw [show allB [(⟨false, true, false⟩, ptB (sgR s msg)), (⟨false, true, false⟩, ptB (secN s)), (md, msg)] = ptB (sgR s msg) ++ (ptB (secN s) ++ msg) by simp [allB]] at hH2
  simp only [List.map_cons, List.map_nil, lsV] at hH1 hH2
  unfold sgL
  have hkl : hashN (ptB (sgR s msg) ++ (ptB (secN s) ++ msg)) < Lq := Nat.mod_lt _ (by decide)
  generalize hashN (ptB (sgR s msg) ++ (ptB (secN s) ++ msg)) = k at *
  have hb1 := fBytesL_spec (secN s)
  have hR := fRReduce_spec (byL 32 (secN s)) ⟨false, true, false⟩ (by simp [byL_len])
  rw [byN_byL, Nat.mod_eq_of_lt (show secN s < 256 ^ 32 from hn)] at hR
  have hnl : secN s % Lq < Lq := Nat.mod_lt _ (by decide)
  have hM := fMulL_spec k (secN s % Lq) hkl (Nat.lt_trans hnl (Nat.lt_trans Lq_lt (by decide)))
  have hA := fAddL_mod (sgR s msg) (k * (secN s % Lq) % Lq) hrl (Nat.mod_lt _ (by decide))
  rw [show (sgR s msg + k * (secN s % Lq) % Lq) % Lq = sgS (secN s) (sgR s msg) k from rfl] at hA
  have hb2 := fBytesL_spec (sgS (secN s) (sgR s msg) k)
  have bl1 := byL_len 32 (secN s)
  have bl2 := byL_len 32 (sgS (secN s) (sgR s msg) k)
  have hdl : (dgst F64 s).length = 64 := by simp
  generalize dgst F64 s = G at *
  generalize byL 32 (sgS (secN s) (sgR s msg) k) = b2 at *
  generalize byL 32 (secN s) = b1 at *
  generalize sgS (secN s) (sgR s msg) k = sn at *
  generalize k * (secN s % Lq) % Lq = kn at *
  generalize secN s % Lq = nl at *
  generalize mB (sgR s msg) = M at *
  generalize ptB (sgR s msg) = R at *
  generalize ptB (secN s) = K at *
  generalize secN s = n at *
  generalize sgR s msg = r at *
  generalize toF baseX = bx at *
  generalize toF baseY = by' at *
  generalize toF dP = d at *
  simp only [rpC] at hB t1 hE
  simp only [List.map_drop] at hS hH1
  have kt : List.take 32 (s.map bv) = s.map bv := List.take_of_length_le (by simp [hs])
  have Kt : List.take 32 (K.map bv) = K.map bv := List.take_of_length_le (by simp [kl])
  have Rt : List.take 32 (R.map bv) = R.map bv := List.take_of_length_le (by simp [rl])
  have b1t : List.take 32 (b1.map bv) = b1.map bv := List.take_of_length_le (by simp [bl1])
  have b2t : List.take 32 (b2.map bv) = b2.map bv := List.take_of_length_le (by simp [bl2])
  refine FSpec.of_W fRSgSign_low (by simp) ?_
  simp only [initEnv]
  simp [hs, kt]
  refine WO_callP [] rfl rfl hS (by simp) (by simp [hs]) ?_
  simp [hs, kt]
  refine WO_callP [] rfl rfl hP (by simp) (by simp [hs]) ?_
  simp [kl, Kt]
  refine WO_callP [] rfl rfl hH1 (by simp) (by simp [kl]) ?_
  simp [kl, Kt]
  refine WO_callQ rfl hB (by simp) ?_
  simp
  refine WO_callQ rfl hD (by simp) ?_
  simp
  refine WO_callQ rfl t1 (by simp) ?_
  simp
  refine WO_callQ rfl hE (by simp) ?_
  simp [rl, Rt]
  refine W_cut (cut_trans (cut_frz 5 rfl) (cut_frz 3 rfl)) ?_
  simp [rl, Rt, kl, Kt]
  refine WO_callQ rfl hH2 (by simp) ?_
  simp [rl, Rt, kl, Kt]
  refine WO_callP [] rfl rfl hb1 (by simp) (by simp [rl, kl, Rt, Kt]) ?_
  simp [bl1, b1t]
  refine W_cut (cut_frz 7 rfl) ?_
  simp [bl1, b1t]
  refine WO_callQ rfl hR (by simp) ?_
  simp
  refine WO_callQ rfl hM (by simp) ?_
  simp
  refine WO_callQ rfl hA (by simp) ?_
  simp
  refine WO_callQ rfl hb2 (by simp) ?_
  simp [bl1, b1t, bl2, b2t]
  refine W_loop (X := { i : Nat // i ≤ 32 }) (fun i => [(4, .ptr 1 0), (9, .rptr false (R.map bv)), (12, .ptr 8 0), (13, .ptr 9 0), (14, .int .i64 i.1)])
    (fun i => [none, some ⟨arr .u8 64 fun _ => 0, 25, true⟩, none, none, none, none, none, none, some ⟨b2.map bv, 22, true⟩, some ⟨arr .u8 64 (twoF R b2 i.1), 25, true⟩]) (fun i => 32 - i.1) ⟨0, by omega⟩ retPost_le ?_ ?_
  · exact cut_w (by simp [twoF_zero, arr_zero64])
  · rintro ⟨i, hi⟩
    simp only
    simp
    refine WC_dec (fun h => ?_) (fun h => ?_)
    · have c1 : R[i]? = some R[i] := by simp
      have c2 : b2[i]? = some b2[i] := by simp
      have u := twoF_step R b2 i (by omega)
      have g1 : R.getD i 0 = R[i] := by simp [List.getD_eq_getElem?_getD, c1]
      have g2 : b2.getD i 0 = b2[i] := by simp [List.getD_eq_getElem?_getD, c2]
      rw [g1, g2] at u
      have w1 : IntKind.i64.wrap (32 + (i : Int)) = ((32 + i : Nat) : Int) := by rw [wrap64s (by omega) (by omega)]; simp
      have w2 : IntKind.i64.wrap ((i : Int) + 1) = (i : Int) + 1 := wrap64s (by omega) (by omega)
      generalize R[i] = x at *
      generalize b2[i] = y at *
      simp [h, c1, c2, w1, w2, rl, bl2]
      repeat (refine ⟨by omega, ?_⟩)
      refine ⟨⟨i + 1, by omega⟩, by simp; omega, ?_⟩
      exact cut_w (by simp [show (32 + (i : Int)).toNat = 32 + i by omega, arr_set, u])
    · have : i = 32 := by omega
      subst this
      simp [twoF_all rl bl2, rl, bl2, arr_take]
      have hT : List.take 64 (R.map bv ++ b2.map bv) = R.map bv ++ b2.map bv := List.take_of_length_le (by simp [rl, bl2])
      rw [hT, hT]
      exact fin_W (by simp)
end Go.Proofs.YthgibibeoapfbaaGreat
namespace Go.Proofs.YthgibibeoapfbaaGreat
open Go.Fw
set_option maxRecDepth 100000
set_option maxHeartbeats 4000000
end Go.Proofs.YthgibibeoapfbaaGreat
namespace Go.Proofs.YthgibibeoapfbaaGreat
open Go Go.Fw
attribute [local irreducible] W WX WR WO WS WSr WH WHA WG WC FSpec
attribute [local simp] WS_at_map WSr_at_map WS_at_arr WSr_at_arr loadWP splice_full Int.natCast_inj arr_set
theorem sgL_len (s msg : List UInt8) : (sgL s msg).length = 64 := by simp [sgL, ptB_len, byL_len]
end Go.Proofs.YthgibibeoapfbaaGreat
namespace Go.Proofs.YthgibibeoapfbaaGreat
open Go Go.Fw
attribute [local irreducible] W WX WR WO WS WSr WH WHA WG WC FSpec
attribute [local simp] WS_at_map WSr_at_map WS_at_arr WSr_at_arr loadWP splice_full Int.natCast_inj
theorem set_bv (l : List UInt8) (i : Nat) (n : Int) (h : 0 ≤ n ∧ n < 256) : (l.map bv).set i (.int .u8 n) = (l.set i (UInt8.ofNat n.toNat)).map bv := by
  rw [List.map_set]; congr 1
  have : (UInt8.ofNat n.toNat).toNat = n.toNat := UInt8.toNat_ofNat_of_lt' (by show n.toNat < 256; omega)
  simp [bv, this]; omega
theorem xor8 (x y : Int) : 0 ≤ bitI .xor .u8 x y ∧ bitI .xor .u8 x y < 256 := by
  unfold bitI
  simp only
  rw [wrapu8]
  omega
end Go.Proofs.YthgibibeoapfbaaGreat
namespace Go.Proofs.YthgibibeoapfbaaGreat
open Go.Fw
set_option maxRecDepth 100000
set_option maxHeartbeats 4000000
@[reducible] def fTParse : KCode := by
  refine (?f : lowF Tryz.progTables Tryz.f31 [(13, 11)] [] = ?c → annF false [] [] ?c = ?k → KCode) ?h ?i
  case h => cbv; exact rfl
  case i => cbv; exact rfl
  exact fun _ _ => ?k
theorem fTParse_low : lowFunc Tryz.prog 31 [(13, 11)] [] = some ⟨fTParse.bare, [.tmp 2, .tmp 3], 61⟩ := by kernel_rfl
@[reducible] def fTRParse : KCode := by
  refine (?f : lowF Tryz.progTables Tryz.f58 [(13, 14)] [] = ?c → annF false [] [] ?c = ?k → KCode) ?h ?i
  case h => cbv; exact rfl
  case i => cbv; exact rfl
  exact fun _ _ => ?k
theorem fTRParse_low : lowFunc Tryz.prog 58 [(13, 14)] [] = some ⟨fTRParse.bare, [.tmp 2, .tmp 3], 83⟩ := by kernel_rfl
@[reducible] def fTEncode : KCode := by
  refine (?f : lowF Tryz.progTables Tryz.f26 [] [(10, [0, 1, 2, 3, 4, 5, 6, 7, 9, 10, 8, 11, 12])] = ?c → annF false [] [] ?c = ?k → KCode) ?h ?i
  case h => cbv; exact rfl
  case i => cbv; exact rfl
  exact fun _ _ => ?k
theorem fTEncode_low : lowFunc Tryz.prog 26 [] [(10, [0, 1, 2, 3, 4, 5, 6, 7, 9, 10, 8, 11, 12])] = some ⟨fTEncode.bare, [.tmp 2, .tmp 3], 45⟩ := by kernel_rfl
@[reducible] def fPLives : KCode := by
  refine (?f : lowF Tryz.progTables Tryz.f4 [] [] = ?c → annF false [] [] ?c = ?k → KCode) ?h ?i
  case h => cbv; exact rfl
  case i => cbv; exact rfl
  exact fun _ _ => ?k
theorem fPLives_low : lowFunc Tryz.prog 4 [] [] = some ⟨fPLives.bare, [.tmp 0], 31⟩ := by kernel_rfl
@[reducible] def fPEncode_r0 : List (DOper × List Nat) := [
  o1 1 (.box 28 (.t 0)) [0],
  o1 2 (.mv (.k (.list 1 ⟨true, true, false⟩ []))) [2]]
@[reducible] def fPEncode_r1 : List (DOper × List Nat) := [
  o1 6 (.load (some 100) (.t 1)) [],
  o2 8 2 (.fieldAddr 36 (.t 1)) [1],
  o2 9 3 (.slA 1 64 (.t 8) none none none) [8],
  o2 10 4 (.build [(.int .u8 0), (.list 1 ⟨true, true, false⟩ [])] [(0, 1, (.k (.int .u8 6))), (1, 1, (.t 9))]) [9],
  o2 11 5 (.buildF 73 2 [(.int .u8 0), (.list 1 ⟨true, true, false⟩ [])] [(0, 2, (.t 10))]) [10],
  (⟨⟨(some 7), none, .call 27 [(.t 6)]⟩, 1, [3]⟩, [6]),
  o2 12 6 (.appO 73 2 32 (.t 7) (.t 11)) [7, 11],
  o2 13 7 (.call 26 [(.t 12)]) [12],
  o2 5 8 (.mv (.t 13)) [13],
  o2 14 9 (.extract 0 (.t 5)) [],
  o2 15 10 (.extract 1 (.t 5)) [5],
  o2 3 11 (.mv (.t 14)) [14],
  o2 4 12 (.mv (.t 15)) [4, 15]]
@[reducible] def fPEncode_r2 : List (DOper × List Nat) := [
  o1 16 (.mv (.t 3)) [3],
  o1 2 (.mv (.t 16)) [16]]
@[reducible] def fPEncode : KCode := (.seq (.reg fPEncode_r0) (.seq (.draw fPEncode_r1) (.seq (.reg fPEncode_r2) .ret)))
@[reducible] def fPEncode_rs : List IRes := [.tmp 2]
theorem fPEncode_low : lowFunc Tryz.prog 9 [] [(1, [0, 2, 3, 4, 5, 1, 6, 7, 8, 9, 10, 11, 12])] = some ⟨fPEncode.bare, fPEncode_rs, 17⟩ := by kernel_rfl
@[reducible] def fPParse : KCode := by
  refine (?f : lowF Tryz.progTables Tryz.f12 [] [(15, [0, 1, 2, 3, 5, 6, 7, 8, 9, 10, 11, 12, 13, 14, 16, 17, 18, 19, 21, 22, 23, 24, 25, 26, 27, 28, 29, 30, 31, 32, 4, 15, 20, 33, 34, 35])] = ?c → annF false [] [] ?c = ?k → KCode) ?h ?i
  case h => cbv; exact rfl
  case i => cbv; exact rfl
  exact fun _ _ => ?k
theorem fPParse_low : lowFunc Tryz.prog 12 [] [(15, [0, 1, 2, 3, 5, 6, 7, 8, 9, 10, 11, 12, 13, 14, 16, 17, 18, 19, 21, 22, 23, 24, 25, 26, 27, 28, 29, 30, 31, 32, 4, 15, 20, 33, 34, 35])] = some ⟨fPParse.bare, [.cell 2 (some 100), .tmp 3], 88⟩ := by kernel_rfl
@[reducible] def fPREncode_r0 : List (DOper × List Nat) := [
  o1 1 (.box 38 (.t 0)) [0],
  o1 2 (.mv (.k (.list 1 ⟨true, true, false⟩ []))) [2]]
@[reducible] def fPREncode_r1 : List (DOper × List Nat) := [
  o1 3 (.load (some 100) (.t 1)) [],
  o2 5 2 (.fieldAddr 36 (.t 1)) [1],
  o2 6 3 (.slA 1 64 (.t 5) none none none) [5],
  (⟨⟨(some 4), none, .call 7 [(.t 3)]⟩, 1, [3]⟩, [3]),
  o2 7 4 (.call 24 [(.t 4), (.k (.int .u8 6)), (.t 6)]) [4, 6],
  o2 2 5 (.mv (.t 7)) [7]]
@[reducible] def fPREncode : KCode := (.seq (.reg fPREncode_r0) (.seq (.draw fPREncode_r1) .ret))
@[reducible] def fPREncode_rs : List IRes := [.tmp 2]
theorem fPREncode_low : lowFunc Tryz.prog 60 [] [(1, [0, 2, 3, 1, 4, 5])] = some ⟨fPREncode.bare, fPREncode_rs, 8⟩ := by kernel_rfl
@[reducible] def fPOf : KCode := by
  refine (?f : lowF Tryz.progTables Tryz.f8 [] [] = ?c → annF false [] [] ?c = ?k → KCode) ?h ?i
  case h => cbv; exact rfl
  case i => cbv; exact rfl
  exact fun _ _ => ?k
theorem fPOf_low : lowFunc Tryz.prog 8 [] [] = some ⟨fPOf.bare, [.cell 2 (some 100)], 16⟩ := by kernel_rfl
@[reducible] def fPSigned : KCode := by
  refine (?f : lowF Tryz.progTables Tryz.f13 [] [] = ?c → annF false [] [] ?c = ?k → KCode) ?h ?i
  case h => cbv; exact rfl
  case i => cbv; exact rfl
  exact fun _ _ => ?k
theorem fPSigned_low : lowFunc Tryz.prog 13 [] [] = some ⟨fPSigned.bare, [.tmp 2], 12⟩ := by kernel_rfl
@[reducible] def fPRSigned_r0 : List (DOper × List Nat) := [
  o1 1 (.box 38 (.t 0)) [0],
  o1 2 (.mv (.k (.list 1 ⟨true, true, false⟩ []))) [2]]
@[reducible] def fPRSigned_r1 : List (DOper × List Nat) := [
  o1 4 (.fieldAddr 0 (.t 1)) [],
  o1 5 (.load none (.t 4)) [4],
  o1 6 (.call 25 [(.t 5)]) [5],
  o1 7 (.call 24 [(.k (.list 1 ⟨true, true, false⟩ [])), (.k (.int .u8 1)), (.t 6)]) [6],
  o1 3 (.mv (.t 7)) [7]]
@[reducible] def fPRSigned_r2 : List (DOper × List Nat) := [
  o1 8 (.mv (.t 3)) [3],
  o1 9 (.fieldAddr 3 (.t 1)) [],
  o1 10 (.load none (.t 9)) [9],
  o1 11 (.buildF 5 1 [(.int .u8 0)] [(0, 1, (.t 10))]) [10],
  o1 12 (.call 24 [(.t 8), (.k (.int .u8 2)), (.t 11)]) [8, 11],
  o1 3 (.mv (.t 12)) [12]]
@[reducible] def fPRSigned_r3 : List (DOper × List Nat) := [
  o1 13 (.mv (.t 3)) [3],
  o1 14 (.fieldAddr 1 (.t 1)) [],
  o1 15 (.load none (.t 14)) [14],
  o1 16 (.call 25 [(.t 15)]) [15],
  o1 17 (.call 24 [(.t 13), (.k (.int .u8 3)), (.t 16)]) [13, 16],
  o1 3 (.mv (.t 17)) [17]]
@[reducible] def fPRSigned_r4 : List (DOper × List Nat) := [
  o1 18 (.mv (.t 3)) [3],
  o1 19 (.fieldAddr 2 (.t 1)) [],
  o1 20 (.load none (.t 19)) [19],
  o1 21 (.call 25 [(.t 20)]) [20],
  o1 22 (.call 24 [(.t 18), (.k (.int .u8 4)), (.t 21)]) [18, 21],
  o1 3 (.mv (.t 22)) [22]]
@[reducible] def fPRSigned_r5 : List (DOper × List Nat) := [
  o1 23 (.mv (.t 3)) [3],
  o1 24 (.fieldAddr 4 (.t 1)) [1],
  o1 25 (.slA 1 32 (.t 24) none none none) [24],
  o1 26 (.call 24 [(.t 23), (.k (.int .u8 5)), (.t 25)]) [23, 25],
  o1 2 (.mv (.t 26)) [26]]
@[reducible] def fPRSigned : KCode := (.seq (.reg fPRSigned_r0) (.seq (.reg fPRSigned_r1) (.seq (.reg fPRSigned_r2) (.seq (.reg fPRSigned_r3) (.seq (.reg fPRSigned_r4) (.seq (.reg fPRSigned_r5) .ret))))))
@[reducible] def fPRSigned_rs : List IRes := [.tmp 2]
theorem fPRSigned_low : lowFunc Tryz.prog 7 [] [] = some ⟨fPRSigned.bare, fPRSigned_rs, 27⟩ := by kernel_rfl
@[reducible] def fPRParse : KCode := by
  refine (?f : lowF Tryz.progTables Tryz.f29 [] [] = ?c → annF false [] [] ?c = ?k → KCode) ?h ?i
  case h => cbv; exact rfl
  case i => cbv; exact rfl
  exact fun _ _ => ?k
theorem fPRParse_low : lowFunc Tryz.prog 29 [] [] = some ⟨fPRParse.bare, [.cell 2 (some 100), .tmp 3], 85⟩ := by kernel_rfl
@[reducible] def fPItems : KCode := by
  refine (?f : lowF Tryz.progTables Tryz.f27 [] [(1, [0, 1, 4, 5, 6, 7, 8, 9, 12, 13, 16, 17, 18, 2, 3, 10, 11, 14, 15, 19, 20])] = ?c → annF false [] [] ?c = ?k → KCode) ?h ?i
  case h => cbv; exact rfl
  case i => cbv; exact rfl
  exact fun _ _ => ?k
theorem fPItems_low : lowFunc Tryz.prog 27 [] [(1, [0, 1, 4, 5, 6, 7, 8, 9, 12, 13, 16, 17, 18, 2, 3, 10, 11, 14, 15, 19, 20])] = some ⟨fPItems.bare, [.tmp 2], 23⟩ := by kernel_rfl
@[reducible] def fPNumber : KCode := by
  refine (?f : lowF Tryz.progTables Tryz.f32 [] [] = ?c → annF false [] [] ?c = ?k → KCode) ?h ?i
  case h => cbv; exact rfl
  case i => cbv; exact rfl
  exact fun _ _ => ?k
theorem fPNumber_low : lowFunc Tryz.prog 32 [] [] = some ⟨fPNumber.bare, [.tmp 2], 25⟩ := by kernel_rfl
@[reducible] def fPPut : KCode := by
  refine (?f : lowF Tryz.progTables Tryz.f24 [] [] = ?c → annF false [] [] ?c = ?k → KCode) ?h ?i
  case h => cbv; exact rfl
  case i => cbv; exact rfl
  exact fun _ _ => ?k
theorem fPPut_low : lowFunc Tryz.prog 24 [] [] = some ⟨fPPut.bare, [.tmp 6], 24⟩ := by kernel_rfl
@[reducible] def fPWord : KCode := by
  refine (?f : lowF Tryz.progTables Tryz.f49 [] [] = ?c → annF false [] [] ?c = ?k → KCode) ?h ?i
  case h => cbv; exact rfl
  case i => cbv; exact rfl
  exact fun _ _ => ?k
theorem fPWord_low : lowFunc Tryz.prog 49 [] [] = some ⟨fPWord.bare, [.tmp 2], 15⟩ := by kernel_rfl
@[reducible] def fPRWord : KCode := by
  refine (?f : lowF Tryz.progTables Tryz.f25 [] [] = ?c → annF false [] [] ?c = ?k → KCode) ?h ?i
  case h => cbv; exact rfl
  case i => cbv; exact rfl
  exact fun _ _ => ?k
theorem fPRWord_low : lowFunc Tryz.prog 25 [] [] = some ⟨fPRWord.bare, [.tmp 2], 18⟩ := by kernel_rfl
@[reducible] def fPRNumber : KCode := by
  refine (?f : lowF Tryz.progTables Tryz.f59 [] [] = ?c → annF false [] [] ?c = ?k → KCode) ?h ?i
  case h => cbv; exact rfl
  case i => cbv; exact rfl
  exact fun _ _ => ?k
theorem fPRNumber_low : lowFunc Tryz.prog 59 [] [] = some ⟨fPRNumber.bare, [.tmp 2], 18⟩ := by kernel_rfl
@[reducible] def fPCheck : KCode := by
  refine (?f : lowF Tryz.progTables Tryz.f10 [] [] = ?c → annF false [] [] ?c = ?k → KCode) ?h ?i
  case h => cbv; exact rfl
  case i => cbv; exact rfl
  exact fun _ _ => ?k
theorem fPCheck_low : lowFunc Tryz.prog 10 [] [] = some ⟨fPCheck.bare, [.cell 4 (some 100), .tmp 5], 60⟩ := by kernel_rfl
@[reducible] def fPRCheck : KCode := by
  refine (?f : lowF Tryz.progTables Tryz.f11 [] [(12, [0, 1, 2, 4, 5, 3, 6, 7])] = ?c → annF false [] [] ?c = ?k → KCode) ?h ?i
  case h => cbv; exact rfl
  case i => cbv; exact rfl
  exact fun _ _ => ?k
theorem fPRCheck_low : lowFunc Tryz.prog 11 [] [(12, [0, 1, 2, 4, 5, 3, 6, 7])] = some ⟨fPRCheck.bare, [.cell 4 (some 100), .tmp 5], 58⟩ := by kernel_rfl
@[reducible] def fPChecks : KCode := by
  refine (?f : lowF Tryz.progTables Tryz.f3 [] [(11, [0, 1, 2, 3, 4, 6, 5, 7, 8, 9])] = ?c → annF false [] [1003,1007] ?c = ?k → KCode) ?h ?i
  case h => cbv; exact rfl
  case i => cbv; exact rfl
  exact fun _ _ => ?k
theorem fPChecks_low : lowFunc Tryz.prog 3 [] [(11, [0, 1, 2, 3, 4, 6, 5, 7, 8, 9])] = some ⟨fPChecks.bare, [.tmp 6], 77⟩ := by kernel_rfl
end Go.Proofs.YthgibibeoapfbaaGreat
namespace Go.Proofs.YthgibibeoapfbaaGreat
open Go Go.Fw
attribute [local irreducible] W WX WR WO WS WSr WH WHA WG WC FSpec
structure It2 where
  tag : UInt8
  val : List UInt8
  deriving DecidableEq
def It2.cells (i : It2) : List AV := [bv i.tag, .list 1 ⟨false, false, false⟩ (i.val.map bv)]
def cells2 (l : List It2) : List AV := l.flatMap It2.cells
@[simp] theorem cells2_length (l : List It2) : (cells2 l).length = l.length * 2 := by
  induction l with
  | nil => rfl
  | cons i l ih => simp [cells2, It2.cells] at ih ⊢; omega
@[simp] theorem cells2_drop (l : List It2) (i : Nat) : (cells2 l).drop (i * 2) = cells2 (l.drop i) := by
  induction l generalizing i with
  | nil => simp [cells2]
  | cons x l ih =>
    cases i with
    | zero => simp
    | succ i =>
      have := ih i
      simp only [cells2, List.flatMap_cons, It2.cells, List.drop_succ_cons] at this ⊢
      rw [← this, show (i + 1) * 2 = i * 2 + 1 + 1 by omega]
      simp
@[simp] theorem cells2_cons (x : It2) (l : List It2) : cells2 (x :: l) = bv x.tag :: .list 1 ⟨false, false, false⟩ (x.val.map bv) :: cells2 l := by simp [cells2, It2.cells]
@[simp] theorem ltL_cells2 (n : Nat) (l : List It2) : ltL n (cells2 l) = true := ltL_flatMap _ fun x => by simp [It2.cells, ltL, AV.ltI]
@[simp] theorem ids_cells2 (q : Nat → Bool) (l : List It2) : idsL q (cells2 l) = true := idsL_flatMap _ fun x => by simp [It2.cells, idsL, AV.ids, idsL_bv]
@[simp] theorem sub_cells2 (s : Nat → Nat → Nat → Nat → Option Nat → AV) (p : Nat → Nat → AV) (l : List It2) : subL s p (cells2 l) = cells2 l := subL_flatMap _ fun x => by simp [It2.cells, subL, AV.sub, subL_bv]
@[simp] theorem cleanL_cells2 (l : List It2) : cleanL (cells2 l) = true := cleanL_flatMap _ fun x => by simp [It2.cells]
theorem cells2_append (a b : List It2) : cells2 (a ++ b) = cells2 a ++ cells2 b := by simp [cells2]
@[simp] theorem cells2_nil : cells2 [] = [] := rfl
def tlvP (b : List UInt8) (last : UInt8) (out : List It2) : List It2 × Int :=
  match b with
  | [] => (out, 0)
  | [_] => ([], 18)
  | t :: n :: r => if t ≤ last then ([], 7) else if 200 < n.toNat ∨ out.length = 16 then ([], 17) else if r.length < n.toNat then ([], 18) else
      tlvP (r.drop n.toNat) t (out ++ [⟨t, r.take n.toNat⟩])
  termination_by b.length
  decreasing_by simp; omega
def tlvR (r : List It2 × Int) : AV := .tuple [.list 2 ⟨false, false, false⟩ (cells2 r.1), .int .i64 r.2]
theorem fTParse_spec (b : List UInt8) (md : Md) (hb : b.length < 2^62) : FSpec Tryz.prog 31 [.list 1 md (b.map bv)] [] (tlvR (tlvP b 0 [])) [] := by
  refine FSpec.of_W fTParse_low (by simp) ?_
  simp only [initEnv]
  simp
  refine W_loop (X := { s : List UInt8 × Md × UInt8 × List It2 // s.1.length < 2^62 ∧ s.2.2.2.length ≤ 16 ∧ tlvP s.1 s.2.2.1 s.2.2.2 = tlvP b 0 [] })
    (fun s => [(0, .list 1 s.1.2.1 (s.1.1.map bv)), (4, .slice 2 0 0 s.1.2.2.2.length none), (5, .int .i64 s.1.2.2.1.toNat)]) (fun s => [some ⟨cells2 s.1.2.2.2, 73, false⟩]) (fun s => s.1.1.length) ⟨(b, md, 0, []), hb, by simp, rfl⟩ retPost_le ?_ ?_
  · refine cut_trans (cut_ghost 4 2 73 (by simp) rfl rfl) (cut_w ?_)
    simp [cells2]
  · rintro ⟨⟨c, md, last, out⟩, hc, ho, he⟩
    simp only at hc ho he ⊢
    rcases c with _ | ⟨t, _ | ⟨n, r⟩⟩
    · simp
      rw [tlvP] at he
      rw [← he]
      refine fin_F 0 rfl (fin_W ?_)
      simp [tlvR]
      rw [List.take_of_length_le (by simp)]; simp
    · simp
      rw [tlvP] at he
      rw [← he]
      refine fin_W ?_
      simp [tlvR, cells2]
    · rw [tlvP] at he
      simp at hc
      have er : ∀ {n : Int}, ([], n) = tlvP b 0 [] → fin 0 (tlvR (tlvP b 0 [])) [] (.tuple [.list 1 ⟨true, true, false⟩ [], .int .i64 n]) [some ⟨cells2 out, 73, false⟩] := fun q => by
        rw [← q]; refine fin_W ?_; simp [tlvR, cells2]
      simp [wrap64_u8]
      refine WC_dec (fun h => ?_) (fun h => ?_)
      rotate_left
      · exfalso; omega
      simp [wrap64_u8]
      refine WC_dec (fun h => ?_) (fun h => ?_)
      · exfalso; omega
      simp [wrap64_u8]
      refine WC_dec (fun h => ?_) (fun h => ?_)
      · simp
        rw [if_pos (UInt8.le_iff_toNat_le.2 (by omega))] at he
        exact er he
      · have h' : ¬ t ≤ last := fun q => h (by have := UInt8.le_iff_toNat_le.1 q; omega)
        rw [if_neg h'] at he
        simp
        refine WG_decF (fun hn => ?_) (fun hn => ?_)
        · rw [if_pos (.inl (by omega))] at he
          simp
          exact er he
        · simp
          refine WC_dec (fun h6 => ?_) (fun h6 => ?_)
          · rw [if_pos (.inr (by omega))] at he
            simp
            exact er he
          · rw [if_neg (by omega)] at he
            simp
            rw [wrap64 (by omega) (by omega)]
            refine WC_dec (fun hr => ?_) (fun hr => ?_)
            · rw [if_pos (by omega)] at he
              simp
              exact er he
            · rw [if_neg (by omega)] at he
              simp
              rw [wrap64 (by omega) (by omega)]
              have hm : (2 + (n.toNat : Int)).toNat = 2 + n.toNat := by omega
              have e1 : List.take (out.length * 2) (cells2 out) = cells2 out := List.take_of_length_le (by simp)
              have e2 : List.drop (2 + n.toNat) (AV.int IntKind.u8 ↑t.toNat :: AV.int IntKind.u8 ↑n.toNat :: List.map bv r) = List.drop n.toNat (r.map bv) := by
                rw [show 2 + n.toNat = n.toNat + 1 + 1 by omega, List.drop_succ_cons, List.drop_succ_cons]
              simp [hm, show 2 + n.toNat - 2 = n.toNat by omega, e1]
              refine ⟨by omega, by omega, by omega, by omega, ⟨(r.drop n.toNat, ⟨md.nl, md.full, md.bw⟩, t, out ++ [⟨t, r.take n.toNat⟩]), by simp; omega, by simp; omega, he⟩, by simp; omega, ?_⟩
              refine cut_ren [1] (by simp) rfl ?_ ?_
              · simp [e2, bwd, rnS]
                rw [List.take_of_length_le (by simp; omega)]
              · simp [cells2_append, It2.cells, bwd]
def lastT (out : List It2) : UInt8 := match out.getLast? with
  | some x => x.tag
  | none => 0
theorem cells2_get (l : List It2) (i : Nat) (x : It2) (h : l[i]? = some x) : (cells2 l)[i * 2]? = some (.int .u8 x.tag.toNat) := by
  have := cells2_drop l i
  have h2 : l.drop i = x :: l.drop (i + 1) := by
    have hi := (List.getElem?_eq_some_iff.1 h)
    rw [← hi.2]; simp
  rw [← Nat.add_zero (i * 2), ← List.getElem?_drop, this, h2, cells2_cons]
  rfl
theorem fTRParse_spec (b : List UInt8) (md : Md) (hb : b.length < 2^62) : FSpec Tryz.prog 58 [.list 1 md (b.map bv)] [] (tlvR (tlvP b 0 [])) [] := by
  refine FSpec.of_W fTRParse_low (by simp) ?_
  simp only [initEnv]
  simp
  refine W_loop (X := { s : Nat × List It2 // s.1 ≤ b.length ∧ s.2.length ≤ 16 ∧ tlvP (b.drop s.1) (lastT s.2) s.2 = tlvP b 0 [] })
    (fun s => [(0, .list 1 md (b.map bv)), (4, .slice 2 0 0 s.1.2.length none), (5, .int .i64 s.1.1)]) (fun s => [some ⟨cells2 s.1.2, 153, false⟩]) (fun s => b.length - s.1.1) ⟨(0, []), by simp, by simp, rfl⟩ retPost_le ?_ ?_
  · refine cut_trans (cut_ghost 4 2 153 (by simp) rfl rfl) (cut_w ?_)
    simp
  · rintro ⟨⟨p, out⟩, hp, ho, he⟩
    simp only at hp ho he ⊢
    have er : ∀ {n : Int}, ([], n) = tlvP b 0 [] → fin 0 (tlvR (tlvP b 0 [])) [] (.tuple [.list 1 ⟨true, true, false⟩ [], .int .i64 n]) [some ⟨cells2 out, 153, false⟩] := fun q => by
      rw [← q]; refine fin_W ?_; simp [tlvR]
    simp
    refine WC_dec (fun h => ?_) (fun h => ?_)
    rotate_left
    · simp
      rw [List.drop_of_length_le (by omega), tlvP] at he
      rw [← he]
      refine fin_F 0 rfl (fin_W ?_)
      simp [tlvR]
      rw [List.take_of_length_le (by simp)]; simp
    obtain ⟨t, c, hc⟩ : ∃ t c, b.drop p = t :: c := ⟨b[p], b.drop (p+1), by simp⟩
    have ht : b[p]? = some t := by rw [← Nat.add_zero p, ← List.getElem?_drop, hc]; rfl
    have hl : b.length = p + (c.length + 1) := by have := congrArg List.length hc; simp at this; omega
    rw [hc] at he
    simp
    rw [wrap64 (by omega) (by omega)]
    refine WC_dec (fun h1 => ?_) (fun h1 => ?_)
    · simp
      have : c = [] := List.length_eq_zero_iff.1 (by omega)
      subst this
      rw [tlvP] at he
      exact er he
    rcases c with _ | ⟨n, r⟩
    · exfalso; simp at hl; omega
    have hn : b[p+1]? = some n := by rw [← List.getElem?_drop, hc]; rfl
    simp at hl
    rw [tlvP] at he
    simp
    rw [wrap64 (by omega) (by omega)]
    have hp1 : ((p : Int) + 1).toNat = p + 1 := by omega
    simp [hp1, hn, ht, wrap64_u8]
    refine ⟨by omega, by omega, by omega, ?_⟩
    have e1 : List.take (out.length * 2) (cells2 out) = cells2 out := List.take_of_length_le (by simp)
    refine WG_join [(0, .list 1 md (b.map bv)), (4, .slice 2 0 0 out.length none), (5, .int .i64 p), (6, .int .i64 n.toNat), (45, .bool (decide (t ≤ lastT out)))] [some ⟨cells2 out, 153, false⟩] ?_ (fun k Q hW => ?_)
    rotate_left
    · refine WG_decF (fun hz => ?_) (fun hz => ?_)
      · simp [show t ≤ lastT out from UInt8.le_iff_toNat_le.2 (by omega)] at hW
        simpa using hW
      · simp
        refine WG_decT (fun hq => ?_) (fun hq => ?_)
        · have hq : out ≠ [] := fun q => by rw [q] at hq; simp at hq
          obtain ⟨l, x, rfl⟩ : ∃ l x, out = l ++ [x] := ⟨out.dropLast, out.getLast hq, (List.dropLast_concat_getLast hq).symm⟩
          simp at ho
          have e3 : lastT (l ++ [x]) = x.tag := by simp [lastT]
          have e4 : (cells2 (l ++ [x]))[l.length * 2]? = some (.int .u8 x.tag.toNat) := cells2_get _ _ _ (by simp)
          have e5 : atF (cells2 (l ++ [x])) (l.length * 2) = ok1 (.int .u8 x.tag.toNat) := by unfold atF; rw [e4]
          simp [ht]
          rw [wrap64 (by omega) (by omega)]
          simp [e3, UInt8.le_iff_toNat_le, e5] at hW ⊢
          exact ⟨h, by omega, hW⟩
        · have hq : out = [] := List.length_eq_zero_iff.1 (by omega)
          subst hq
          simp [show ¬ t ≤ lastT [] from fun q => hz (by have := UInt8.le_iff_toNat_le.1 q; simp [lastT] at this; exact this)] at hW
          simpa using hW
    simp
    refine WC_dec (fun h7 => ?_) (fun h7 => ?_)
    · rw [if_pos h7] at he
      simp
      exact er he
    rw [if_neg h7] at he
    simp
    refine WG_decF (fun h8 => ?_) (fun h8 => ?_)
    · rw [if_pos (.inl (by omega))] at he
      simp
      exact er he
    simp
    refine WC_dec (fun h9 => ?_) (fun h9 => ?_)
    · rw [if_pos (.inr (by omega))] at he
      simp
      exact er he
    rw [if_neg (by omega)] at he
    simp
    rw [wrap64 (n := (p : Int) + 2) (by omega) (by omega), wrap64 (n := (p : Int) + 2 + n.toNat) (by omega) (by omega)]
    refine WC_dec (fun h10 => ?_) (fun h10 => ?_)
    · rw [if_pos (by omega)] at he
      simp
      exact er he
    rw [if_neg (by omega)] at he
    simp [ht]
    rw [wrap64 (n := (p : Int) + 2) (by omega) (by omega), wrap64 (n := (p : Int) + 2 + n.toNat) (by omega) (by omega), wrap64 (n := 2 + (n.toNat : Int)) (by omega) (by omega), wrap64 (n := (p : Int) + (2 + n.toNat)) (by omega) (by omega)]
    have hm1 : ((p : Int) + 2 + (n.toNat : Int)).toNat = p + 2 + n.toNat := by omega
    have hm2 : ((p : Int) + 2).toNat = p + 2 := by omega
    have hd : b.drop (p + 2) = r := by
      have := congrArg (List.drop 2) hc
      rw [List.drop_drop] at this
      simpa using this
    have hd' : List.drop (p + 2) (b.map bv) = r.map bv := by rw [← hd]; simp
    simp [hm1, hm2, hd', e1, show p + 2 + n.toNat - (p + 2) = n.toNat by omega]
    have hl2 : lastT (out ++ [⟨t, r.take n.toNat⟩]) = t := by simp [lastT]
    have hd2 : b.drop (p + 2 + n.toNat) = r.drop n.toNat := by rw [← List.drop_drop, hd]
    refine ⟨h, by omega, by omega, by omega, ⟨(p + 2 + n.toNat, out ++ [⟨t, r.take n.toNat⟩]), by simp; omega, by simp; omega, by simp only [hl2, hd2]; exact he⟩, by simp; omega, ?_⟩
    refine cut_ren [1] (by simp) rfl ?_ ?_
    · simp [bwd, rnS]
      omega
    · simp [cells2_append, It2.cells, bwd]
def tlvE : List It2 → UInt8 → Nat → List UInt8 → List UInt8 × Int
  | [], _, _, out => (out, 0)
  | x :: l, last, i, out => if x.tag ≤ last then ([], 7) else if 200 < x.val.length ∨ i = 16 then ([], 17) else tlvE l x.tag (i + 1) (out ++ [x.tag, UInt8.ofNat x.val.length] ++ x.val)
def encR (r : List UInt8 × Int) : AV := .tuple [.list 1 ⟨false, false, false⟩ (r.1.map bv), .int .i64 r.2]
theorem wrap8_len {n : Nat} (h : n ≤ 200) : IntKind.u8.wrap (n : Int) = ((UInt8.ofNat n).toNat : Int) := by
  rw [wrap8 (by omega) (by omega), UInt8.toNat_ofNat_of_lt' (by show n < 256; omega)]
theorem fTEncode_spec (l : List It2) (md : Md) (hl : l.length < 2 ^ 62) : FSpec Tryz.prog 26 [.list 2 md (cells2 l)] [] (encR (tlvE l 0 0 [])) [] := by
  refine FSpec.of_W fTEncode_low (by simp) ?_
  simp only [initEnv]
  simp
  refine W_loop (X := { s : Nat × UInt8 × List UInt8 // s.1 ≤ l.length ∧ s.1 ≤ 16 ∧ s.2.2.length ≤ s.1 * 202 ∧ tlvE (l.drop s.1) s.2.1 s.1 s.2.2 = tlvE l 0 0 [] })
    (fun s => [(4, .slice 1 0 0 s.1.2.2.length none), (5, .int .u8 s.1.2.1.toNat), (8, .list 2 md (cells2 l)), (9, .int .i64 l.length), (10, .int .i64 s.1.1)]) (fun s => [some ⟨s.1.2.2.map bv, 5, false⟩]) (fun s => l.length - s.1.1) ⟨(0, 0, []), by simp, by simp, by simp, rfl⟩ retPost_le ?_ ?_
  · refine cut_trans (cut_ghost 4 1 5 (by simp) rfl rfl) (cut_w ?_)
    simp
  · rintro ⟨⟨i, last, out⟩, hi, h16, ho, he⟩
    simp only at hi h16 ho he ⊢
    simp
    refine WC_dec (fun hlt => ?_) (fun hlt => ?_)
    · obtain ⟨x, r, hd⟩ : ∃ x r, l.drop i = x :: r := ⟨l[i], l.drop (i+1), by simp⟩
      rw [hd, tlvE] at he
      have er : ∀ {n : Int} {Hx : Heap}, ([], n) = tlvE l 0 0 [] → fin 0 (encR (tlvE l 0 0 [])) [] (.tuple [.list 1 ⟨true, true, false⟩ [], .int .i64 n]) Hx := fun q => by
        rw [← q]; refine fin_W ?_; simp [encR]
      simp [hd]
      refine ⟨hlt, ?_⟩
      refine WC_dec (fun h7 => ?_) (fun h7 => ?_)
      · rw [if_pos (UInt8.le_iff_toNat_le.2 (by omega))] at he
        simp
        exact er he
      rw [if_neg (fun q => h7 (by have := UInt8.le_iff_toNat_le.1 q; omega))] at he
      simp
      refine WG_decF (fun h8 => ?_) (fun h8 => ?_)
      · rw [if_pos (.inl (by omega))] at he
        simp
        exact er he
      simp
      refine WC_dec (fun h9 => ?_) (fun h9 => ?_)
      · rw [if_pos (.inr (by omega))] at he
        simp
        exact er he
      rw [if_neg (by omega)] at he
      have e1 : List.take out.length (out.map bv) = out.map bv := List.take_of_length_le (by simp)
      have e2 : List.take (out.length + 2) (out.map bv ++ [bv x.tag, bv (UInt8.ofNat x.val.length)]) = out.map bv ++ [bv x.tag, bv (UInt8.ofNat x.val.length)] := List.take_of_length_le (by simp)
      simp [wrap8_len (show x.val.length ≤ 200 by omega), e1]
      rw [wrap64 (by omega) (by omega)]
      have hl2 : (out ++ [x.tag, UInt8.ofNat x.val.length] ++ x.val).length = out.length + 2 + x.val.length := by simp; omega
      have hd2 : l.drop (i + 1) = r := by rw [← List.drop_drop, hd]; rfl
      refine ⟨by omega, by omega, ⟨(i + 1, x.tag, out ++ [x.tag, UInt8.ofNat x.val.length] ++ x.val), by simp; omega, by simp; omega, by simp only [hl2]; omega, by simp only [hd2]; exact he⟩, by simp; omega, ?_⟩
      refine cut_ren [3] (by simp) rfl ?_ ?_
      · simp [bwd, rnS]
        omega
      · simp [bwd] at e2 ⊢
        rw [e2]
        simp
    · rw [List.drop_of_length_le (by omega), tlvE] at he
      simp
      rw [← he]
      refine fin_F 0 rfl (fin_W ?_)
      simp [encR]
      rw [List.take_of_length_le (by simp)]
      simp
end Go.Proofs.YthgibibeoapfbaaGreat
namespace Go.Proofs.YthgibibeoapfbaaGreat
open Go Go.Fw
attribute [local irreducible] W WX WR WO WS WSr WH WHA WG WC FSpec
attribute [local simp] WS_at_map WSr_at_map WS_at_arr WSr_at_arr loadWP splice_full Int.natCast_inj
structure Pkt where
  hw : Nat
  ver : Nat
  sz : Nat
  ty : UInt8
  hash : List UInt8
  sig : List UInt8
  deriving DecidableEq
structure Pkt.Ok (p : Pkt) : Prop where
  hw : p.hw < 2 ^ 32
  ver : p.ver < 2 ^ 32
  sz : p.sz < 2 ^ 32
  hash : p.hash.length = 32
  sig : p.sig.length = 64
def pkP (p : Pkt) : List AV := .int .u32 (p.hw : Nat) :: bv p.ty :: .int .u32 (p.ver : Nat) :: .int .u32 (p.sz : Nat) :: (p.hash.map bv ++ p.sig.map bv)
def pkR (p : Pkt) : List AV := .int .u32 (p.hw : Nat) :: .int .u32 (p.ver : Nat) :: .int .u32 (p.sz : Nat) :: bv p.ty :: (p.hash.map bv ++ p.sig.map bv)
def pkItems (p : Pkt) : List It2 := [⟨1, byL 4 p.hw⟩, ⟨2, [p.ty]⟩, ⟨3, byL 4 p.ver⟩, ⟨4, byL 4 p.sz⟩, ⟨5, p.hash⟩]
def putB (b : List UInt8) (t : UInt8) (v : List UInt8) : List UInt8 := b ++ t :: UInt8.ofNat v.length :: v
def sgnB (p : Pkt) : List UInt8 := putB (putB (putB (putB (putB [] 1 (byL 4 p.hw)) 2 [p.ty]) 3 (byL 4 p.ver)) 4 (byL 4 p.sz)) 5 p.hash
def pkB (p : Pkt) : List UInt8 := putB (sgnB p) 6 p.sig
theorem byL4 (n : Nat) : byL 4 n = [UInt8.ofNat n, UInt8.ofNat (n / 256), UInt8.ofNat (n / 65536), UInt8.ofNat (n / 16777216)] := by
  simp [byL, List.range_succ]
theorem fPWord_spec (n : Nat) (hn : n < 2 ^ 32) : FSpec Tryz.prog 49 [.int .u32 (n : Nat)] [] (.list 1 ⟨false, false, false⟩ ((byL 4 n).map bv)) [] := by
  have e0 := wrap8_u8 n
  have e1 : IntKind.u8.wrap (((n : Nat) : Int).fdiv 256) = ((UInt8.ofNat (n / 256)).toNat : Int) := by
    have h := shr_nat n 8; rw [show ((2 : Int) ^ 8) = 256 from rfl, show (2 : Nat) ^ 8 = 256 from rfl] at h; rw [h, wrap8_u8]
  have e2 : IntKind.u8.wrap (((n : Nat) : Int).fdiv 65536) = ((UInt8.ofNat (n / 65536)).toNat : Int) := by
    have h := shr_nat n 16; rw [show ((2 : Int) ^ 16) = 65536 from rfl, show (2 : Nat) ^ 16 = 65536 from rfl] at h; rw [h, wrap8_u8]
  have e3 : IntKind.u8.wrap (((n : Nat) : Int).fdiv 16777216) = ((UInt8.ofNat (n / 16777216)).toNat : Int) := by
    have h := shr_nat n 24; rw [show ((2 : Int) ^ 24) = 16777216 from rfl, show (2 : Nat) ^ 24 = 16777216 from rfl] at h; rw [h, wrap8_u8]
  refine FSpec.of_W fPWord_low (by simp) ?_
  simp only [initEnv]
  simp [e0, e1, e2, e3, IntKind.bits]
  refine fin_W ?_
  simp [byL4]
theorem wrap_b32 (b : UInt8) : IntKind.u32.wrap (b.toNat : Nat) = (b.toNat : Nat) := by rw [wrapu32]; have := b.toNat_lt; congr 1; omega
theorem word4le (a b c d : UInt8) : bitI .or .u32 (bitI .or .u32 (bitI .or .u32 (a.toNat : Nat) (IntKind.u32.wrap ((b.toNat : Nat) * 256))) (IntKind.u32.wrap ((c.toNat : Nat) * 65536))) (IntKind.u32.wrap ((d.toNat : Nat) * 16777216)) = (byN [a, b, c, d] : Nat) := by
  have ha := a.toNat_lt; have hb := b.toNat_lt; have hc := c.toNat_lt; have hd := d.toNat_lt
  have e1 : ((b.toNat : Nat) : Int) * 256 = ((b.toNat * 256 : Nat) : Int) := by simp
  have e2 : ((c.toNat : Nat) : Int) * 65536 = ((c.toNat * 65536 : Nat) : Int) := by simp
  have e3 : ((d.toNat : Nat) : Int) * 16777216 = ((d.toNat * 16777216 : Nat) : Int) := by simp
  rw [e1, e2, e3, wrapu32, wrapu32, wrapu32, Nat.mod_eq_of_lt (by omega), Nat.mod_eq_of_lt (by omega), Nat.mod_eq_of_lt (by omega)]
  have o1 := or_shl a.toNat b.toNat 8 (by omega)
  have o2 := or_shl (a.toNat + b.toNat * 256) c.toNat 16 (by omega)
  have o3 := or_shl (a.toNat + b.toNat * 256 + c.toNat * 65536) d.toNat 24 (by omega)
  rw [show (2 : Nat) ^ 8 = 256 from rfl] at o1
  rw [show (2 : Nat) ^ 16 = 65536 from rfl] at o2
  rw [show (2 : Nat) ^ 24 = 16777216 from rfl] at o3
  rw [bitI_or rfl (show a.toNat < 2 ^ 32 by omega) (show b.toNat * 256 < 2 ^ 32 by omega), o1]
  rw [bitI_or rfl (show a.toNat + b.toNat * 256 < 2 ^ 32 by omega) (show c.toNat * 65536 < 2 ^ 32 by omega), o2]
  rw [bitI_or rfl (show a.toNat + b.toNat * 256 + c.toNat * 65536 < 2 ^ 32 by omega) (show d.toNat * 16777216 < 2 ^ 32 by omega), o3]
  simp only [byN]
  omega
theorem fPNumber_spec (a b c d : UInt8) (md : Md) : FSpec Tryz.prog 32 [.list 1 md ([a, b, c, d].map bv)] [] (.int .u32 (byN [a, b, c, d] : Nat)) [] := by
  have h := word4le a b c d
  obtain ⟨v, hv⟩ : ∃ v, v = byN [a, b, c, d] := ⟨_, rfl⟩
  rw [← hv] at h ⊢
  refine FSpec.of_W fPNumber_low (by simp) ?_
  simp only [initEnv]
  simp [wrap_b32, IntKind.bits, h]
  exact fin_W (by simp)
theorem fPPut_spec (b v : List UInt8) (t : UInt8) (m1 m2 : Md) (hb : b.length < 2 ^ 40) (hv : v.length < 256) : FSpec Tryz.prog 24 [.list 1 m1 (b.map bv), bv t, .list 1 m2 (v.map bv)] [] (.list 1 ⟨false, false, false⟩ ((putB b t v).map bv)) [] := by
  have e : IntKind.u8.wrap (v.length : Int) = ((UInt8.ofNat v.length).toNat : Int) := wrap8_u8 _
  refine FSpec.of_W fPPut_low (by simp) ?_
  simp only [initEnv]
  simp [List.take_of_length_le, e]
  refine ⟨by omega, by omega, by omega, by omega, ?_⟩
  exact fin_sl 3 rfl (by simp; omega) (by simp [putB]) (by simp)
theorem fPItems_spec (p : Pkt) (hp : p.Ok) : FSpec Tryz.prog 27 [.agg (pkP p)] [] (.list 2 ⟨false, true, false⟩ (cells2 (pkItems p))) [] := by
  have hh := hp.hash
  have hs := hp.sig
  refine FSpec.of_W fPItems_low (by simp) ?_
  simp only [initEnv]
  simp [pkP, hh, hs]
  refine WO_callP [] rfl rfl (fPWord_spec p.hw hp.hw) (by simp) (by simp [hh, hs, List.take_of_length_le]) ?_
  simp
  refine WO_callP [] rfl rfl (fPWord_spec p.ver hp.ver) (by simp) (by simp [hh, hs, List.take_of_length_le]) ?_
  simp
  refine WO_callP [] rfl rfl (fPWord_spec p.sz hp.sz) (by simp) (by simp [hh, hs, List.take_of_length_le]) ?_
  simp
  refine fin_F 0 rfl ?_
  refine fin_W ?_
  simp [pkItems, hh, hs, List.take_of_length_le, List.take_left']
theorem tlvE_items (p : Pkt) (hp : p.Ok) : tlvE (pkItems p) 0 0 [] = (sgnB p, 0) := by
  have hh := hp.hash
  simp [tlvE, pkItems, sgnB, putB, byL_len, hh]
theorem tlvE_all (p : Pkt) (hp : p.Ok) : tlvE (pkItems p ++ [⟨6, p.sig⟩]) 0 0 [] = (pkB p, 0) := by
  have hh := hp.hash
  have hs := hp.sig
  simp [tlvE, pkItems, pkB, sgnB, putB, byL_len, hh, hs]
theorem fPSigned_spec (p : Pkt) (hp : p.Ok) : FSpec Tryz.prog 13 [.agg (pkP p)] [] (.list 1 ⟨false, false, false⟩ ((sgnB p).map bv)) [] := by
  have hh := hp.hash
  have hs := hp.sig
  have hi := fPItems_spec p hp
  have he := fTEncode_spec (pkItems p) ⟨false, true, false⟩ (by simp [pkItems])
  rw [tlvE_items p hp] at he
  have hc : cleanL (pkP p) = true := by simp [pkP]
  have hl : (pkP p).length = 100 := by simp [pkP, hh, hs]
  have ht : (pkP p).take 100 = pkP p := List.take_of_length_le (by omega)
  have hid : idsL (fun _ => false) (pkP p) = true := by simp [pkP]
  refine FSpec.of_W fPSigned_low (by simp) ?_
  simp only [initEnv]
  simp [hc, hl, ht]
  refine WO_callP [] rfl rfl hi (by simp [hid]) (by simp) ?_
  simp
  refine WO_callP [] rfl rfl he (by simp [encR]) (by simp) ?_
  simp [encR]
  exact fin_W (by simp)
theorem fPEncode_spec (p : Pkt) (hp : p.Ok) : FSpec Tryz.prog 9 [.agg (pkP p)] [] (.list 1 ⟨false, false, false⟩ ((pkB p).map bv)) [] := by
  have hh := hp.hash
  have hs := hp.sig
  have hi := fPItems_spec p hp
  have he := fTEncode_spec (pkItems p ++ [⟨6, p.sig⟩]) ⟨false, false, true⟩ (by simp [pkItems])
  rw [tlvE_all p hp] at he
  have hc : cleanL (pkP p) = true := by simp [pkP]
  have hl : (pkP p).length = 100 := by simp [pkP, hh, hs]
  have ht : (pkP p).take 100 = pkP p := List.take_of_length_le (by omega)
  have hid : idsL (fun _ => false) (pkP p) = true := by simp [pkP]
  have hd : ((pkP p).drop 36).take 64 = p.sig.map bv := by
    have h32 : (p.hash.map bv).length = 32 := by simp [hh]
    simp [pkP, List.drop_append, h32, hs, List.take_of_length_le]
  refine FSpec.of_W (c := .seq (.reg fPEncode_r0) (.cut (.seq (.draw fPEncode_r1) (.seq (.reg fPEncode_r2) .ret)))) fPEncode_low (by simp) ?_
  simp only [initEnv]
  simp [hc]
  refine W_cut (cut_frz 0 rfl) ?_
  simp [hl, ht, hd]
  refine WO_callP [] rfl rfl hi (by simp [hid]) (by simp [hl, hd]) ?_
  have hpl : (pkItems p).length = 5 := rfl
  simp [hpl]
  refine WO_callP [1] (as' := [.list 2 ⟨false, false, true⟩ (cells2 (pkItems p) ++ [bv 6, .list 1 ⟨false, true, false⟩ (p.sig.map bv)])]) rfl (by simp [hpl, List.take_of_length_le]) (FSpec.wk (by simp [pkItems, cells2_append, cells2_cons]) he) (by simp [encR]) (by simp) ?_
  simp [encR]
  exact fin_W (by simp)
end Go.Proofs.YthgibibeoapfbaaGreat
namespace Go.Proofs.YthgibibeoapfbaaGreat
open Go Go.Fw
attribute [local irreducible] W WX WR WO WS WSr WH WHA WG WC FSpec
attribute [local simp] WS_at_map WSr_at_map WS_at_arr WSr_at_arr loadWP splice_full Int.natCast_inj
theorem fPRWord_spec (n : Nat) (hn : n < 2 ^ 32) : FSpec Tryz.prog 25 [.int .u32 (n : Nat)] [] (.list 1 ⟨false, false, false⟩ ((byL 4 n).map bv)) [] := by
  refine FSpec.of_W fPRWord_low (by simp) ?_
  simp only [initEnv]
  simp
  have hlb : ∀ k, (byL k n).length = k := by intro k; simp [byL]
  refine W_loop (X := { i : Nat // i ≤ 4 }) (fun i => [(0, .int .u32 (n / 256 ^ i.1 : Nat)), (3, .slice 1 0 0 i.1 none), (4, .int .i64 i.1)]) (fun i => [some ⟨(byL i.1 n).map bv, 5, false⟩]) (fun i => 4 - i.1) ⟨0, by simp⟩ retPost_le ?_ ?_
  · refine cut_trans (cut_ghost 3 1 5 (by simp) rfl rfl) (cut_w ?_)
    simp [byL]
  · rintro ⟨i, hi⟩
    simp only
    simp
    refine WC_dec (fun h => ?_) (fun h => ?_)
    · simp [hlb]
      refine ⟨by omega, ?_⟩
      have hq : (n : Int) / 256 ^ i = ((n / 256 ^ i : Nat) : Int) := by simp
      have hqn : n / 256 ^ (i + 1) = n / 256 ^ i / 256 := by rw [Nat.pow_succ, ← Nat.div_div_eq_div_mul]
      have hle : n / 256 ^ i ≤ n := Nat.div_le_self _ _
      have h1 : ((n / 256 ^ i : Nat) : Int).tdiv 256 = ((n / 256 ^ i / 256 : Nat) : Int) := rfl
      have h2 : ((n / 256 ^ i : Nat) : Int).tmod 256 = ((n / 256 ^ i % 256 : Nat) : Int) := rfl
      have h3 : IntKind.u8.wrap ((n / 256 ^ i % 256 : Nat) : Int) = ((UInt8.ofNat (n / 256 ^ i)).toNat : Int) := by
        rw [wrap8_u8, UInt8.toNat_ofNat', UInt8.toNat_ofNat']; simp
      rw [hq, h1, h2, h3]
      have h4 : IntKind.u32.wrap ((n / 256 ^ i % 256 : Nat) : Int) = ((n / 256 ^ i % 256 : Nat) : Int) := by rw [wrapu32, Nat.mod_eq_of_lt (by omega)]
      have h5 : IntKind.u32.wrap ((n / 256 ^ i / 256 : Nat) : Int) = ((n / 256 ^ i / 256 : Nat) : Int) := by rw [wrapu32, Nat.mod_eq_of_lt (by omega)]
      simp only [h3, h4, h5]
      refine ⟨⟨i + 1, by omega⟩, by simp; omega, ?_⟩
      refine cut_rw [1] (by simp) rfl ?_ ?_
      · have hqz : (n : Int) / 256 ^ (i + 1) = (n : Int) / 256 ^ i / 256 := by
          have h := congrArg (fun x : Nat => (x : Int)) hqn
          simpa using h
        simp [hqz, wrap64 (n := (i : Int) + 1) (by omega) (by omega)]
      · simp [byL_succ, List.take_of_length_le, hlb]
    · have : i = 4 := by omega
      subst this
      simp
      exact fin_sl 0 rfl (by simp [hlb]) (by simp) (by simp)
theorem byN_lt (l : List UInt8) : byN l < 256 ^ l.length := by
  induction l with
  | nil => simp [byN]
  | cons x l ih => have := x.toNat_lt; simp only [byN, List.length_cons, Nat.pow_succ]; omega
theorem numstep (x : UInt8) (r : List UInt8) (h : r.length ≤ 3) : IntKind.u32.wrap (IntKind.u32.wrap ((byN r : Nat) * 256) + (x.toNat : Nat)) = (byN (x :: r) : Nat) := by
  have hx := x.toNat_lt
  have h1 : byN r < 256 ^ 3 := Nat.lt_of_lt_of_le (byN_lt r) (Nat.pow_le_pow_right (by omega) h)
  rw [show ((byN r : Nat) : Int) * 256 = ((byN r * 256 : Nat) : Int) by simp, wrapu32, Nat.mod_eq_of_lt (by omega), ← Int.natCast_add, wrapu32, Nat.mod_eq_of_lt (by omega)]
  simp only [byN]; congr 1; omega
theorem fPRNumber_spec (a b c d : UInt8) (md : Md) : FSpec Tryz.prog 59 [.list 1 md ([a, b, c, d].map bv)] [] (.int .u32 (byN [a, b, c, d] : Nat)) [] := by
  have ha := a.toNat_lt; have hb := b.toNat_lt; have hc := c.toNat_lt; have hd := d.toNat_lt
  refine FSpec.of_W fPRNumber_low (by simp) ?_
  simp only [initEnv]
  simp
  refine W_loop (X := { i : Nat // i ≤ 4 }) (fun i => [(0, .list 1 md ([a, b, c, d].map bv)), (3, .int .u32 (byN ([a, b, c, d].drop i.1) : Nat)), (4, .int .i64 ((i.1 : Int) - 1))]) (fun i => []) (fun i => i.1) ⟨4, by simp⟩ retPost_le ?_ ?_
  · refine cut_w ?_
    simp [byN]
  · rintro ⟨i, hi⟩
    simp only
    simp
    obtain rfl | rfl | rfl | rfl | rfl : i = 0 ∨ i = 1 ∨ i = 2 ∨ i = 3 ∨ i = 4 := by omega
    · simp
      exact fin_W (by simp)
    · simp [wrap_b32, numstep a [b, c, d] (by simp)]
      refine ⟨⟨0, by simp⟩, by simp, cut_w ?_⟩
      simp
      rfl
    · simp [wrap_b32, numstep b [c, d] (by simp)]
      refine ⟨⟨1, by simp⟩, by simp, cut_w ?_⟩
      simp
      rfl
    · simp [wrap_b32, numstep c [d] (by simp)]
      refine ⟨⟨2, by simp⟩, by simp, cut_w ?_⟩
      simp
      rfl
    · simp [wrap_b32, numstep d [] (by simp)]
      refine ⟨⟨3, by simp⟩, by simp, cut_w ?_⟩
      simp
      rfl
theorem pkR_load (p : Pkt) (hp : p.Ok) : (pkR p).length = 100 ∧ (pkR p).take 100 = pkR p ∧ cleanL (pkR p) = true ∧ idsL (fun _ => false) (pkR p) = true ∧ ((pkR p).drop 36).take 64 = p.sig.map bv ∧ ((pkR p).drop 4).take 32 = p.hash.map bv := by
  have hh := hp.hash
  have hs := hp.sig
  have hl : (pkR p).length = 100 := by simp [pkR, hh, hs]
  have h32 : (p.hash.map bv).length = 32 := by simp [hh]
  refine ⟨hl, List.take_of_length_le (by omega), by simp [pkR], by simp [pkR], ?_, ?_⟩
  · simp [pkR, List.drop_append, h32, hs, List.take_of_length_le]
  · simp [pkR, List.take_append, h32, List.take_of_length_le]
theorem putB_len (b v : List UInt8) (t : UInt8) : (putB b t v).length = b.length + v.length + 2 := by simp [putB]; omega
theorem fPRSigned_spec (p : Pkt) (hp : p.Ok) : FSpec Tryz.prog 7 [.agg (pkR p)] [] (.list 1 ⟨false, false, false⟩ ((sgnB p).map bv)) [] := by
  have hh := hp.hash
  have hs := hp.sig
  obtain ⟨hl, ht, hc, hid, hd, hd4⟩ := pkR_load p hp
  have a0 : atF (pkR p) 0 = ok1 (.int .u32 (p.hw : Nat)) := rfl
  have a1 : atF (pkR p) 1 = ok1 (.int .u32 (p.ver : Nat)) := rfl
  have a2 : atF (pkR p) 2 = ok1 (.int .u32 (p.sz : Nat)) := rfl
  have a3 : atF (pkR p) 3 = ok1 (bv p.ty) := rfl
  have b1 : atF (pkR p).tail 0 = ok1 (.int .u32 (p.ver : Nat)) := rfl
  refine FSpec.of_W (c := .seq (.reg fPRSigned_r0) (.cut (.seq (.reg fPRSigned_r1) (.seq (.reg fPRSigned_r2) (.seq (.reg fPRSigned_r3) (.seq (.reg fPRSigned_r4) (.seq (.reg fPRSigned_r5) .ret))))))) fPRSigned_low (by simp) ?_
  simp only [initEnv]
  simp [hc]
  refine W_cut (cut_frz 0 rfl) ?_
  simp [hl, a0, a1, a2, a3, b1, hd4]
  refine WO_callP [] rfl rfl (fPRWord_spec p.hw hp.hw) (by simp) (by simp) ?_
  simp [hl, a0, a1, a2, a3, b1, hd4]
  refine WO_callP [] rfl rfl (fPPut_spec [] (byL 4 p.hw) 1 ⟨true, true, false⟩ _ (by simp) (by simp [byL_len])) (by simp) (by simp) ?_
  simp [hl, a0, a1, a2, a3, b1, hd4]
  refine WO_callP [] rfl rfl (fPPut_spec (putB [] 1 (byL 4 p.hw)) [p.ty] 2 _ ⟨false, true, false⟩ (by simp [putB_len, byL_len]) (by simp)) (by simp) (by simp) ?_
  simp [hl, a0, a1, a2, a3, b1, hd4]
  refine WO_callP [] rfl rfl (fPRWord_spec p.ver hp.ver) (by simp) (by simp) ?_
  simp [hl, a0, a1, a2, a3, b1, hd4]
  refine WO_callP [] rfl rfl (fPPut_spec _ (byL 4 p.ver) 3 _ _ (by simp [putB_len, byL_len]) (by simp [byL_len])) (by simp) (by simp) ?_
  simp [hl, a0, a1, a2, a3, b1, hd4]
  refine WO_callP [] rfl rfl (fPRWord_spec p.sz hp.sz) (by simp) (by simp) ?_
  simp [hl, a0, a1, a2, a3, b1, hd4]
  refine WO_callP [] rfl rfl (fPPut_spec _ (byL 4 p.sz) 4 _ _ (by simp [putB_len, byL_len]) (by simp [byL_len])) (by simp) (by simp) ?_
  simp [hl, a0, a1, a2, a3, b1, hd4]
  refine WO_callP [] rfl rfl (fPPut_spec _ p.hash 5 _ _ (by simp [putB_len, byL_len]) (by simp [hh])) (by simp) (by simp [hd4]) ?_
  simp
  exact fin_W (by simp [sgnB])
theorem sgnB_len (p : Pkt) (hp : p.Ok) : (sgnB p).length = 55 := by simp [sgnB, putB_len, byL_len, hp.hash]
theorem pkB_len (p : Pkt) (hp : p.Ok) : (pkB p).length = 121 := by simp [pkB, putB_len, sgnB_len p hp, hp.sig]
theorem fPREncode_spec (p : Pkt) (hp : p.Ok) : FSpec Tryz.prog 60 [.agg (pkR p)] [] (.list 1 ⟨false, false, false⟩ ((pkB p).map bv)) [] := by
  have hh := hp.hash
  have hs := hp.sig
  obtain ⟨hl, ht, hc, hid, hd, hd4⟩ := pkR_load p hp
  refine FSpec.of_W (c := .seq (.reg fPREncode_r0) (.cut (.seq (.draw fPREncode_r1) .ret))) fPREncode_low (by simp) ?_
  simp only [initEnv]
  simp [hc]
  refine W_cut (cut_frz 0 rfl) ?_
  simp [hl, ht, hd]
  refine WO_callP [] rfl rfl (fPRSigned_spec p hp) (by simp [hid]) (by simp [hl, hd]) ?_
  simp
  refine WO_callP [] rfl rfl (fPPut_spec (sgnB p) p.sig 6 _ _ (by simp [sgnB_len p hp]) (by simp [hs])) (by simp) (by simp [hd]) ?_
  simp
  exact fin_W (by simp [pkB])
theorem splice4 (a b c d : AV) (z h : List AV) (hz : z.length = 96) (hh : h.length = 96) : splice (a :: b :: c :: d :: z) 4 h = a :: b :: c :: d :: h := by
  rw [splice_take_drop _ _ _ (by simp [hz, hh])]; simp [hh, hz, List.drop_of_length_le]
theorem splice2 (a b c d : AV) (z h s : List AV) (hz : z.length = 96) (hh : h.length = 32) (hs : s.length = 64) : splice (splice (a :: b :: c :: d :: z) 4 h) 36 s = a :: b :: c :: d :: (h ++ s) := by
  have e1 : splice (a :: b :: c :: d :: z) 4 h = a :: b :: c :: d :: (h ++ z.drop 32) := by
    rw [splice_take_drop _ _ _ (by simp [hz, hh])]; simp [hh]
  rw [e1, splice_take_drop _ _ _ (by simp [hz, hh, hs])]
  simp [List.take_append, hh, hs, List.drop_of_length_le, hz, List.take_of_length_le]
theorem fPOf_spec (p : Pkt) (hp : p.Ok) : FSpec Tryz.prog 8 [.agg (pkP p)] [] (.agg (pkR p)) [] := by
  have hh := hp.hash
  have hs := hp.sig
  refine FSpec.of_W fPOf_low (by simp) ?_
  simp only [initEnv]
  simp [pkP, hh, hs, List.take_of_length_le, List.take_left', splice_length, splice2, splice4]
  refine fin_W ?_
  simp [pkR]
end Go.Proofs.YthgibibeoapfbaaGreat
namespace Go.Proofs.YthgibibeoapfbaaGreat
open Go Go.Fw
attribute [local irreducible] W WX WR WO WS WSr WH WHA WG WC FSpec
def rd (b : List UInt8) : Pkt := ⟨byN ((b.drop 2).take 4), byN ((b.drop 11).take 4), byN ((b.drop 17).take 4), b.getD 8 0, (b.drop 23).take 32, (b.drop 57).take 64⟩
def z0 : Pkt := ⟨0, 0, 0, 0, List.replicate 32 0, List.replicate 64 0⟩
def isPk (b : List UInt8) : Prop := b.length = 121 ∧ pkB (rd b) = b
instance (b : List UInt8) : Decidable (isPk b) := inferInstanceAs (Decidable (_ ∧ _))
def pErr (b : List UInt8) : Int := if 128 < b.length then 17 else if (tlvP b 0 []).2 ≠ 0 then (tlvP b 0 []).2 else 7
def parsePk (b : List UInt8) : Pkt × Int := if isPk b then (rd b, 0) else (z0, pErr b)
theorem byN_lt4 (l : List UInt8) (h : l.length = 4) : byN l < 2 ^ 32 := by have := byN_lt l; rw [h] at this; exact this
theorem rd_ok (b : List UInt8) (h : b.length = 121) : (rd b).Ok := by
  constructor
  · exact byN_lt4 _ (by simp [h])
  · exact byN_lt4 _ (by simp [h])
  · exact byN_lt4 _ (by simp [h])
  · simp [rd, h]
  · simp [rd, h]
theorem z0_ok : z0.Ok := by constructor <;> simp [z0]
theorem byN_byL4 (n : Nat) (h : n < 2 ^ 32) : byN (byL 4 n) = n := by rw [byN_byL]; exact Nat.mod_eq_of_lt h
theorem pkB_eq (p : Pkt) (hp : p.Ok) : ∃ w1 w2 w3, pkB p = 1 :: 4 :: (w1 ++ 2 :: 1 :: p.ty :: 3 :: 4 :: (w2 ++ 4 :: 4 :: (w3 ++ 5 :: 32 :: (p.hash ++ 6 :: 64 :: p.sig)))) ∧ w1 = byL 4 p.hw ∧ w2 = byL 4 p.ver ∧ w3 = byL 4 p.sz := by
  refine ⟨_, _, _, ?_, rfl, rfl, rfl⟩
  have hh := hp.hash
  have hs := hp.sig
  simp [pkB, sgnB, putB, byL_len, hh, hs]
theorem rd_pkB (p : Pkt) (hp : p.Ok) : rd (pkB p) = p := by
  have hh := hp.hash
  have hs := hp.sig
  obtain ⟨w1, w2, w3, e, h1, h2, h3⟩ := pkB_eq p hp
  have l1 : w1.length = 4 := by simp [h1, byL_len]
  have l2 : w2.length = 4 := by simp [h2, byL_len]
  have l3 : w3.length = 4 := by simp [h3, byL_len]
  have n1 : byN w1 = p.hw := by rw [h1, byN_byL4 _ hp.hw]
  have n2 : byN w2 = p.ver := by rw [h2, byN_byL4 _ hp.ver]
  have n3 : byN w3 = p.sz := by rw [h3, byN_byL4 _ hp.sz]
  rw [e]
  obtain ⟨hw, ver, sz, ty, hash, sig⟩ := p
  simp only at *
  match w1, l1, w2, l2, w3, l3 with
  | [_, _, _, _], _, [_, _, _, _], _, [_, _, _, _], _ =>
    simp [rd, n1, n2, n3, List.take_append, hh, hs, List.drop_append, List.take_of_length_le, List.drop_of_length_le]
theorem isPk_pkB (p : Pkt) (hp : p.Ok) : isPk (pkB p) := ⟨pkB_len p hp, by rw [rd_pkB p hp]⟩
theorem parse_pkB (p : Pkt) (hp : p.Ok) : parsePk (pkB p) = (p, 0) := by rw [parsePk, if_pos (isPk_pkB p hp), rd_pkB p hp]
theorem tlvP_put (t : UInt8) (v b : List UInt8) (last : UInt8) (out : List It2) (h1 : ¬ t ≤ last) (h2 : v.length ≤ 200) (h3 : out.length < 16) :
    tlvP (t :: UInt8.ofNat v.length :: (v ++ b)) last out = tlvP b t (out ++ [⟨t, v⟩]) := by
  have e : (UInt8.ofNat v.length).toNat = v.length := by rw [UInt8.toNat_ofNat']; omega
  rw [tlvP, if_neg h1, if_neg (by omega), if_neg (by simp; omega), e]
  simp
theorem tlvP_pkB (p : Pkt) (hp : p.Ok) : tlvP (pkB p) 0 [] = (pkItems p ++ [⟨6, p.sig⟩], 0) := by
  have hh := hp.hash
  have hs := hp.sig
  have e : pkB p = 1 :: UInt8.ofNat (byL 4 p.hw).length :: (byL 4 p.hw ++ 2 :: UInt8.ofNat [p.ty].length :: ([p.ty] ++ 3 :: UInt8.ofNat (byL 4 p.ver).length :: (byL 4 p.ver ++ 4 :: UInt8.ofNat (byL 4 p.sz).length :: (byL 4 p.sz ++ 5 :: UInt8.ofNat p.hash.length :: (p.hash ++ 6 :: UInt8.ofNat p.sig.length :: (p.sig ++ [])))))) := by
    simp [pkB, sgnB, putB]
  rw [e, tlvP_put _ _ _ _ _ (by decide) (by simp [byL_len]) (by simp), tlvP_put _ _ _ _ _ (by decide) (by simp) (by simp), tlvP_put _ _ _ _ _ (by decide) (by simp [byL_len]) (by simp), tlvP_put _ _ _ _ _ (by decide) (by simp [byL_len]) (by simp), tlvP_put _ _ _ _ _ (by decide) (by simp [hh]) (by simp), tlvP_put _ _ _ _ _ (by decide) (by simp [hs]) (by simp), tlvP]
  simp [pkItems]
theorem isPk_items (b : List UInt8) (h : isPk b) : tlvP b 0 [] = (pkItems (rd b) ++ [⟨6, (rd b).sig⟩], 0) := by
  have := tlvP_pkB (rd b) (rd_ok b h.1)
  rwa [h.2] at this
theorem tlvP_all (b : List UInt8) (last : UInt8) (out : List It2) : ∀ res, tlvP b last out = (res, 0) → out.length ≤ 16 →
    ∃ l, res = out ++ l ∧ res.length ≤ 16 ∧ (∀ i ∈ l, i.val.length ≤ 200 ∧ last < i.tag) ∧ l.Pairwise (fun a b => a.tag < b.tag) ∧ ∀ acc, tlvE l last out.length acc = (acc ++ b, 0) := by
  fun_induction tlvP b last out with
  | case1 last out => intro res h ho; cases h; exact ⟨[], by simp, ho, by simp, by simp, by simp [tlvE]⟩
  | case2 last out x => intro res h; cases h
  | case3 last out t n r h => intro res h; cases h
  | case4 last out t n r h h2 => intro res h; cases h
  | case5 last out t n r h h2 h3 => intro res h; cases h
  | case6 last out t n r h h2 h3 ih =>
    intro res hr ho
    obtain ⟨l, rfl, h4, h5, h6, h7⟩ := ih res hr (by simp; omega)
    have hm : min n.toNat r.length = n.toNat := by omega
    have hv : (r.take n.toNat).length = n.toNat := by simp [hm]
    refine ⟨⟨t, r.take n.toNat⟩ :: l, by simp, h4, fun i hi => ?_, ?_, fun acc => ?_⟩
    · rcases List.mem_cons.1 hi with rfl | hi
      · exact ⟨by rw [hv]; omega, UInt8.not_le.1 h⟩
      · exact ⟨(h5 i hi).1, UInt8.lt_trans (UInt8.not_le.1 h) (h5 i hi).2⟩
    · exact List.pairwise_cons.2 ⟨fun i hi => (h5 i hi).2, h6⟩
    · rw [tlvE]
      simp only [hv]
      rw [if_neg h, if_neg (by omega)]
      have := h7 (acc ++ [t, UInt8.ofNat n.toNat] ++ r.take n.toNat)
      rw [List.length_append] at this
      rw [show out.length + [(⟨t, r.take n.toNat⟩ : It2)].length = out.length + 1 from rfl] at this
      rw [this]
      simp
theorem items_pk (b : List UInt8) (x1 x2 x3 x4 x5 x6 : It2) (h : tlvP b 0 [] = ([x1, x2, x3, x4, x5, x6], 0)) (t1 : x1.tag = 1) (t2 : x2.tag = 2) (t3 : x3.tag = 3) (t4 : x4.tag = 4) (t5 : x5.tag = 5) (t6 : x6.tag = 6)
    (l1 : x1.val.length = 4) (l2 : x2.val.length = 1) (l3 : x3.val.length = 4) (l4 : x4.val.length = 4) (l5 : x5.val.length = 32) (l6 : x6.val.length = 64) :
    ∃ p : Pkt, p.Ok ∧ b = pkB p ∧ p = ⟨byN x1.val, byN x3.val, byN x4.val, x2.val.getD 0 0, x5.val, x6.val⟩ := by
  obtain ⟨l, e, -, -, -, he⟩ := tlvP_all b 0 [] _ h (by simp)
  simp at e
  have he := he []
  rw [← e] at he
  refine ⟨_, ⟨byN_lt4 _ l1, byN_lt4 _ l3, byN_lt4 _ l4, l5, l6⟩, ?_, rfl⟩
  have hp : Pkt.Ok ⟨byN x1.val, byN x3.val, byN x4.val, x2.val.getD 0 0, x5.val, x6.val⟩ := ⟨byN_lt4 _ l1, byN_lt4 _ l3, byN_lt4 _ l4, l5, l6⟩
  have h2 := tlvE_all _ hp
  have v2 : x2.val = [x2.val.getD 0 0] := by
    obtain ⟨a, ha⟩ := List.length_eq_one_iff.1 l2
    simp [ha]
  have e4 : ∀ v : List UInt8, v.length = 4 → byL 4 (byN v) = v := fun v hv => by have := byL_byN v; rwa [hv] at this
  have : (pkItems ⟨byN x1.val, byN x3.val, byN x4.val, x2.val.getD 0 0, x5.val, x6.val⟩ ++ [⟨6, x6.val⟩] : List It2) = [x1, x2, x3, x4, x5, x6] := by
    obtain ⟨a1, b1⟩ := x1; obtain ⟨a2, b2⟩ := x2; obtain ⟨a3, b3⟩ := x3; obtain ⟨a4, b4⟩ := x4; obtain ⟨a5, b5⟩ := x5; obtain ⟨a6, b6⟩ := x6
    simp only at *
    subst t1 t2 t3 t4 t5 t6
    simp only [pkItems, e4 _ l1, e4 _ l3, e4 _ l4, ← v2]
    rfl
  rw [this] at h2
  have := h2.symm.trans he
  simpa using (congrArg Prod.fst this).symm
end Go.Proofs.YthgibibeoapfbaaGreat
namespace Go.Proofs.YthgibibeoapfbaaGreat
open Go Go.Fw
attribute [local irreducible] W WX WR WO WS WSr WH WHA WG WC FSpec
attribute [local simp] WS_at_map WSr_at_map WS_at_arr WSr_at_arr loadWP splice_full Int.natCast_inj
def pkRR (r : Pkt × Int) : AV := .tuple [.agg (pkR r.1), .int .i64 r.2]
theorem fPRNumber_list (l : List UInt8) (h : l.length = 4) (md : Md) : FSpec Tryz.prog 59 [.list 1 md (l.map bv)] [] (.int .u32 (byN l : Nat)) [] := by
  match l, h with
  | [a, b, c, d], _ => exact fPRNumber_spec a b c d md
theorem fPRNumber_at (b : List UInt8) (k : Nat) (h : k + 4 ≤ b.length) (md : Md) : FSpec Tryz.prog 59 [.list 1 md (((b.map bv).drop k).take 4)] [] (.int .u32 (byN ((b.drop k).take 4) : Nat)) [] := by
  have := fPRNumber_list ((b.drop k).take 4) (by simp; omega) md
  rwa [List.map_take, List.map_drop] at this
def rdG (b : List UInt8) (j : Nat) : Nat := (b.getD (if j < 32 then 23 + j else 25 + j) 0).toNat
def rdH (b : List UInt8) (g : Nat → Nat) : List AV := .int .u32 (byN ((b.drop 2).take 4) : Nat) :: .int .u32 (byN ((b.drop 11).take 4) : Nat) :: .int .u32 (byN ((b.drop 17).take 4) : Nat) :: bv (b.getD 8 0) :: arr .u8 96 g
theorem ltL_pkR (n : Nat) (p : Pkt) : ltL n (pkR p) = true := by simp [pkR, ltL, AV.ltI]
theorem ltL_rdH (n : Nat) (b : List UInt8) (g : Nat → Nat) : ltL n (rdH b g) = true := by simp [rdH, ltL, AV.ltI]
attribute [local simp] ltL_pkR ltL_rdH
theorem rdH_set (b : List UInt8) (g : Nat → Nat) (i v : Nat) : (rdH b g).set (4 + i) (.int .u8 (v : Nat)) = rdH b (upd g i v) := by
  simp [rdH, show 4 + i = i + 1 + 1 + 1 + 1 by omega, arr_set]
theorem rdH_rd (b : List UInt8) (h : b.length = 121) : rdH b (fill 96 (rdG b)) = pkR (rd b) := by
  have : arr .u8 96 (fill 96 (rdG b)) = (((b.drop 23).take 32) ++ ((b.drop 57).take 64)).map bv := by
    rw [bytes_arr _ (m := 96) (by simp [h])]
    refine arr_ext fun k hk => ?_
    simp only [fill, hk, if_true, rdG, List.getD_eq_getElem?_getD, List.getElem?_append]
    split
    · rename_i h3; rw [if_pos (by simp [h]; omega)]; have hx : b[23 + k]? = some b[23 + k] := List.getElem?_eq_getElem (by omega); simp [List.getElem?_take, h3, hx]
    · rw [if_neg (by simp [h]; omega)]; have hx : b[25 + k]? = some b[25 + k] := List.getElem?_eq_getElem (by omega); simp [List.getElem?_take, h, show 57 + (k - 32) = 25 + k by omega, show k - 32 < 64 by omega, hx]
  rw [rdH, this]; simp [pkR, rd]
theorem z0_cells : pkR z0 = ([.int .u32 0, .int .u32 0, .int .u32 0, .int .u8 0, .int .u8 0, .int .u8 0, .int .u8 0, .int .u8 0, .int .u8 0, .int .u8 0, .int .u8 0, .int .u8 0, .int .u8 0, .int .u8 0, .int .u8 0, .int .u8 0, .int .u8 0, .int .u8 0, .int .u8 0, .int .u8 0, .int .u8 0, .int .u8 0, .int .u8 0, .int .u8 0, .int .u8 0, .int .u8 0, .int .u8 0, .int .u8 0, .int .u8 0, .int .u8 0, .int .u8 0, .int .u8 0, .int .u8 0, .int .u8 0, .int .u8 0, .int .u8 0, .int .u8 0, .int .u8 0, .int .u8 0, .int .u8 0, .int .u8 0, .int .u8 0, .int .u8 0, .int .u8 0, .int .u8 0, .int .u8 0, .int .u8 0, .int .u8 0, .int .u8 0, .int .u8 0, .int .u8 0, .int .u8 0, .int .u8 0, .int .u8 0, .int .u8 0, .int .u8 0, .int .u8 0, .int .u8 0, .int .u8 0, .int .u8 0, .int .u8 0, .int .u8 0, .int .u8 0, .int .u8 0, .int .u8 0, .int .u8 0, .int .u8 0, .int .u8 0, .int .u8 0, .int .u8 0, .int .u8 0, .int .u8 0, .int .u8 0, .int .u8 0, .int .u8 0, .int .u8 0, .int .u8 0, .int .u8 0, .int .u8 0, .int .u8 0, .int .u8 0, .int .u8 0, .int .u8 0, .int .u8 0, .int .u8 0, .int .u8 0, .int .u8 0, .int .u8 0, .int .u8 0, .int .u8 0, .int .u8 0, .int .u8 0, .int .u8 0, .int .u8 0, .int .u8 0, .int .u8 0, .int .u8 0, .int .u8 0, .int .u8 0, .int .u8 0] : List AV) := rfl
theorem fPRParse_spec (b : List UInt8) (md : Md) (hb : b.length < 2 ^ 40) : FSpec Tryz.prog 29 [.list 1 md (b.map bv)] [] (pkRR (parsePk b)) [] := by
  have ht := fTRParse_spec b md (by omega)
  have hz : pkR z0 = (AV.int .u32 0 :: .int .u32 0 :: .int .u32 0 :: List.replicate 97 (AV.int .u8 0)) := rfl
  refine FSpec.of_W fPRParse_low (by simp) ?_
  simp only [initEnv]
  simp
  refine WC_dec (fun h => ?_) (fun h => ?_)
  · simp
    have e : parsePk b = (z0, 17) := by rw [parsePk, if_neg (fun q => by have := q.1; omega), pErr, if_pos (by omega)]
    rw [e]
    refine fin_W ?_
    simp [pkRR, hz]
  simp
  refine WO_callP [] rfl rfl ht (by simp [tlvR]) (by simp) ?_
  rcases hr : tlvP b 0 [] with ⟨l, e⟩
  simp [tlvR]
  refine WC_ndec (fun h0 => ?_) (fun h0 => ?_)
  · simp
    have e : parsePk b = (z0, e) := by
      rw [parsePk, if_neg (fun q => by have := isPk_items b q; rw [hr] at this; exact h0 (congrArg Prod.snd this)), pErr, if_neg (by omega), hr, if_pos h0]
    rw [e]
    refine fin_W ?_
    simp [pkRR, hz]
  subst h0
  simp
  refine WC_ndec (fun hl => ?_) (fun hl => ?_)
  · simp
    have e : parsePk b = (z0, 7) := by
      rw [parsePk, if_neg (fun q => by have := q.1; omega), pErr, if_neg (by omega), hr, if_neg (by simp)]
    rw [e]
    refine fin_W ?_
    simp [pkRR, hz]
  have hl : b.length = 121 := by omega
  have b8 : b[8]? = some (b.getD 8 0) := by simp [hl]
  simp [hl]
  refine WO_callP [] rfl rfl (fPRNumber_at b 2 (by omega) _) (by simp) (by simp) ?_
  simp [hl, b8]
  refine WO_callP [] rfl rfl (fPRNumber_at b 11 (by omega) _) (by simp) (by simp) ?_
  simp [hl]
  refine WO_callP [] rfl rfl (fPRNumber_at b 17 (by omega) _) (by simp) (by simp) ?_
  simp [hl]
  have hzr : List.replicate 96 (AV.int .u8 0) = arr .u8 96 (fill 0 (rdG b)) := by rw [fill_zero]; exact arr_replicate .u8 96 0
  refine W_loop (X := { i : Nat // i ≤ 32 }) (fun i => [(0, .list 1 md (b.map bv)), (2, .ptr 0 0), (4, .ptr 1 0), (7, .int .i64 i.1)]) (fun i => [some ⟨pkR z0, 38, true⟩, some ⟨rdH b (fill i.1 (rdG b)), 38, true⟩]) (fun i => 32 - i.1) ⟨0, by simp⟩ retPost_le ?_ ?_
  · refine cut_w ?_
    simp [rdH, ← hzr, hz, hl]
  · rintro ⟨i, hi⟩
    simp only
    simp
    refine WC_dec (fun h => ?_) (fun h => ?_)
    · simp
      rw [wrap64 (n := 23 + (i : Int)) (by omega) (by omega), wrap64 (n := (i : Int) + 1) (by omega) (by omega), show (23 + (i : Int)).toNat = 23 + i by omega]
      have hg : (b[23 + i]?.getD default).toNat = rdG b i := by
        have hx : b[23 + i]? = some b[23 + i] := List.getElem?_eq_getElem (by omega)
        simp [rdG, show i < 32 by omega, hx]
      rw [hg, rdH_set, upd_fill]
      refine ⟨by omega, by omega, h, by simp [rdH]; omega, ⟨i + 1, by omega⟩, by simp; omega, cut_w ?_⟩
      simp
    · have : i = 32 := by omega
      subst this
      simp
      refine W_loop (X := { i : Nat // i ≤ 64 }) (fun i => [(0, .list 1 md (b.map bv)), (2, .ptr 0 0), (4, .ptr 1 0), (8, .int .i64 i.1)]) (fun i => [some ⟨pkR z0, 38, true⟩, some ⟨rdH b (fill (32 + i.1) (rdG b)), 38, true⟩]) (fun i => 64 - i.1) ⟨0, by simp⟩ retPost_le ?_ ?_
      · refine cut_w ?_
        simp
      · rintro ⟨i, hi⟩
        simp only
        simp
        refine WC_dec (fun h => ?_) (fun h => ?_)
        · simp
          rw [wrap64 (n := 57 + (i : Int)) (by omega) (by omega), wrap64 (n := (i : Int) + 1) (by omega) (by omega), show (57 + (i : Int)).toNat = 57 + i by omega]
          have hg : (b[57 + i]?.getD default).toNat = rdG b (32 + i) := by
            have hx : b[57 + i]? = some b[57 + i] := List.getElem?_eq_getElem (by omega)
            simp [rdG, show 25 + (32 + i) = 57 + i by omega, hx, show ¬ 32 + i < 32 by omega]
          rw [hg, show 36 + i = 4 + (32 + i) by omega, rdH_set, upd_fill]
          refine ⟨by omega, by omega, h, by simp [rdH]; omega, ⟨i + 1, by omega⟩, by simp; omega, cut_w ?_⟩
          simp [Nat.add_assoc]
        · have : i = 64 := by omega
          subst this
          simp [rdH_rd b hl, pkR_load (rd b) (rd_ok b hl)]
          refine WO_callP [] rfl rfl (fPREncode_spec (rd b) (rd_ok b hl)) (by simp [pkR_load (rd b) (rd_ok b hl)]) (by simp) ?_
          simp
          have hq := pkB_len (rd b) (rd_ok b hl)
          refine W_loop (X := { i : Nat // i ≤ 121 ∧ b.take i = (pkB (rd b)).take i }) (fun i => [(0, .list 1 md (b.map bv)), (2, .ptr 0 0), (4, .ptr 1 0), (9, .list 1 ⟨false, false, false⟩ ((pkB (rd b)).map bv)), (10, .int .i64 i.1)]) (fun i => [some ⟨pkR z0, 38, true⟩, some ⟨pkR (rd b), 38, true⟩]) (fun i => 121 - i.1) ⟨0, by simp⟩ retPost_le ?_ ?_
          · refine cut_w ?_
            simp
          · rintro ⟨i, hi, hE⟩
            simp only
            simp
            refine WC_dec (fun h => ?_) (fun h => ?_)
            · have hx : b[i]? = some b[i] := List.getElem?_eq_getElem (by omega)
              have hy : (pkB (rd b))[i]? = some (pkB (rd b))[i] := List.getElem?_eq_getElem (by omega)
              simp [hx, hy]
              refine ⟨by omega, by omega, ?_⟩
              refine WC_ndec (fun hne => ?_) (fun heq => ?_)
              · have e : parsePk b = (z0, 7) := by
                  rw [parsePk, if_neg (fun q => hne (by have h5 := congrArg (fun l => l[i]?) q.2; simp only [hx, hy] at h5; exact (congrArg UInt8.toNat (Option.some.inj h5)).symm)), pErr, if_neg (by omega), hr, if_neg (by simp)]
                rw [e]
                simp [z0_cells]
                exact fin_W (by simp [pkRR, z0_cells])
              · simp
                rw [wrap64 (by omega) (by omega)]
                have heq : b[i] = (pkB (rd b))[i] := UInt8.toNat_inj.1 heq
                refine ⟨⟨i + 1, by omega, by rw [List.take_add_one, List.take_add_one, hE, hx, hy, heq]⟩, by simp; omega, cut_w ?_⟩
                simp
            · have : i = 121 := by omega
              subst this
              rw [List.take_of_length_le (by omega), List.take_of_length_le (by omega)] at hE
              have e : parsePk b = (rd b, 0) := by rw [parsePk, if_pos ⟨hl, hE.symm⟩]
              have eS : splice (pkR z0) 0 (pkR (rd b)) = pkR (rd b) := splice_full (by rw [(pkR_load _ z0_ok).1, (pkR_load _ (rd_ok b hl)).1])
              simp [pkR_load (rd b) (rd_ok b hl), pkR_load z0 z0_ok, eS]
              rw [e]
              refine fin_W ?_
              simp [pkRR]
end Go.Proofs.YthgibibeoapfbaaGreat
namespace Go.Proofs.YthgibibeoapfbaaGreat
open Go Go.Fw
attribute [local irreducible] W WX WR WO WS WSr WH WHA WG WC FSpec
attribute [local simp] WS_at_map WSr_at_map WS_at_arr WSr_at_arr loadWP splice_full Int.natCast_inj
def pkPR (r : Pkt × Int) : AV := .tuple [.agg (pkP r.1), .int .i64 r.2]
theorem z0_cellsP : pkP z0 = ([.int .u32 0, .int .u8 0, .int .u32 0, .int .u32 0, .int .u8 0, .int .u8 0, .int .u8 0, .int .u8 0, .int .u8 0, .int .u8 0, .int .u8 0, .int .u8 0, .int .u8 0, .int .u8 0, .int .u8 0, .int .u8 0, .int .u8 0, .int .u8 0, .int .u8 0, .int .u8 0, .int .u8 0, .int .u8 0, .int .u8 0, .int .u8 0, .int .u8 0, .int .u8 0, .int .u8 0, .int .u8 0, .int .u8 0, .int .u8 0, .int .u8 0, .int .u8 0, .int .u8 0, .int .u8 0, .int .u8 0, .int .u8 0, .int .u8 0, .int .u8 0, .int .u8 0, .int .u8 0, .int .u8 0, .int .u8 0, .int .u8 0, .int .u8 0, .int .u8 0, .int .u8 0, .int .u8 0, .int .u8 0, .int .u8 0, .int .u8 0, .int .u8 0, .int .u8 0, .int .u8 0, .int .u8 0, .int .u8 0, .int .u8 0, .int .u8 0, .int .u8 0, .int .u8 0, .int .u8 0, .int .u8 0, .int .u8 0, .int .u8 0, .int .u8 0, .int .u8 0, .int .u8 0, .int .u8 0, .int .u8 0, .int .u8 0, .int .u8 0, .int .u8 0, .int .u8 0, .int .u8 0, .int .u8 0, .int .u8 0, .int .u8 0, .int .u8 0, .int .u8 0, .int .u8 0, .int .u8 0, .int .u8 0, .int .u8 0, .int .u8 0, .int .u8 0, .int .u8 0, .int .u8 0, .int .u8 0, .int .u8 0, .int .u8 0, .int .u8 0, .int .u8 0, .int .u8 0, .int .u8 0, .int .u8 0, .int .u8 0, .int .u8 0, .int .u8 0, .int .u8 0, .int .u8 0, .int .u8 0] : List AV) := rfl
theorem ltL_pkP (n : Nat) (p : Pkt) : ltL n (pkP p) = true := by simp [pkP, ltL, AV.ltI]
attribute [local simp] ltL_pkP
def szs : List Nat := [4, 1, 4, 4, 32, 64]
def okI (l : List It2) (j : Nat) : Prop := ∃ x, l[j]? = some x ∧ x.tag.toNat = j + 1 ∧ x.val.length = szs.getD j 0
theorem pkI_ok (p : Pkt) (hp : p.Ok) : ∀ j < 6, okI (pkItems p ++ [⟨6, p.sig⟩]) j := by
  intro j hj
  have hh := hp.hash
  have hs := hp.sig
  obtain rfl | rfl | rfl | rfl | rfl | rfl : j = 0 ∨ j = 1 ∨ j = 2 ∨ j = 3 ∨ j = 4 ∨ j = 5 := by omega
  all_goals simp [okI, pkItems, szs, byL_len, hh, hs]
theorem fPNumber_list (l : List UInt8) (h : l.length = 4) (md : Md) : FSpec Tryz.prog 32 [.list 1 md (l.map bv)] [] (.int .u32 (byN l : Nat)) [] := by
  match l, h with
  | [a, b, c, d], _ => exact fPNumber_spec a b c d md
theorem fPParse_spec (b : List UInt8) (md : Md) (hb : b.length < 2 ^ 40) : FSpec Tryz.prog 12 [.list 1 md (b.map bv)] [] (pkPR (parsePk b)) [] := by
  have ht := fTParse_spec b md (by omega)
  refine FSpec.of_W fPParse_low (by simp) ?_
  simp only [initEnv]
  simp
  refine WC_dec (fun h => ?_) (fun h => ?_)
  · simp
    have e : parsePk b = (z0, 17) := by rw [parsePk, if_neg (fun q => by have := q.1; omega), pErr, if_pos (by omega)]
    rw [e]
    exact fin_W (by simp [pkPR, z0_cellsP])
  simp
  refine WO_callP [] rfl rfl ht (by simp [tlvR]) (by simp) ?_
  rcases hr : tlvP b 0 [] with ⟨l, e⟩
  simp [tlvR]
  refine WC_ndec (fun h0 => ?_) (fun h0 => ?_)
  · simp
    have e : parsePk b = (z0, e) := by
      rw [parsePk, if_neg (fun q => by have := isPk_items b q; rw [hr] at this; exact h0 (congrArg Prod.snd this)), pErr, if_neg (by omega), hr, if_pos h0]
    rw [e]
    exact fin_W (by simp [pkPR, z0_cellsP])
  subst h0
  simp
  have eN : (¬ isPk b) → parsePk b = (z0, 7) := fun q => by rw [parsePk, if_neg q, pErr, if_neg (by omega), hr, if_neg (by simp)]
  have eI : isPk b → l = pkItems (rd b) ++ [⟨6, (rd b).sig⟩] := fun q => by have := isPk_items b q; rw [hr] at this; exact congrArg Prod.fst this
  refine WC_ndec (fun h6 => ?_) (fun h6 => ?_)
  · simp
    rw [eN (fun q => h6 (by rw [eI q]; simp [pkItems]))]
    exact fin_W (by simp [pkPR, z0_cellsP])
  have h6 : l.length = 6 := by omega
  simp
  refine W_loop (X := { i : Nat // i ≤ 6 ∧ ∀ j < i, okI l j }) (fun i => [(2, .ptr 0 0), (4, .list 2 ⟨false, false, false⟩ (cells2 l)), (6, .list 1 ⟨false, true, false⟩ [.int .i64 4, .int .i64 1, .int .i64 4, .int .i64 4, .int .i64 32, .int .i64 64]), (29, .list 2 ⟨false, false, false⟩ (cells2 l)), (30, .int .i64 l.length), (31, .int .i64 i.1)]) (fun i => [some ⟨pkP z0, 28, true⟩]) (fun i => 6 - i.1) ⟨0, by simp⟩ retPost_le ?_ ?_
  · refine cut_w ?_
    simp [z0_cellsP]
  · rintro ⟨i, hi, hE⟩
    simp only
    simp
    refine WC_dec (fun h => ?_) (fun h => ?_)
    · obtain ⟨x, r, hd⟩ : ∃ x r, l.drop i = x :: r := ⟨l[i], l.drop (i+1), by simp⟩
      have hx : l[i]? = some x := by rw [← Nat.add_zero i, ← List.getElem?_drop, hd]; rfl
      have ha : atF [AV.int .i64 4, .int .i64 1, .int .i64 4, .int .i64 4, .int .i64 32, .int .i64 64] i = ok1 (.int .i64 (szs.getD i 0 : Nat)) := by
        obtain rfl | rfl | rfl | rfl | rfl | rfl : i = 0 ∨ i = 1 ∨ i = 2 ∨ i = 3 ∨ i = 4 ∨ i = 5 := by omega
        all_goals rfl
      have ho : okI l i ↔ x.tag.toNat = i + 1 ∧ x.val.length = szs.getD i 0 := by simp [okI, hx]
      have hf : ¬ okI l i → parsePk b = (z0, 7) := fun q => eN fun k => q (by rw [eI k]; exact pkI_ok _ (rd_ok b k.1) i (by omega))
      simp [hd, wrap64_u8]
      rw [wrap64 (n := (i : Int) + 1) (by omega) (by omega)]
      refine ⟨by omega, ?_⟩
      refine WG_ndecF (fun h1 => ?_) (fun h1 => ?_)
      · rw [hf (fun q => h1 (by have := (ho.1 q).1; omega))]
        simp [z0_cellsP]
        exact fin_W (by simp [pkPR, z0_cellsP])
      · simp [ha]
        refine ⟨by omega, ?_⟩
        refine WC_ndec (fun h2 => ?_) (fun h2 => ?_)
        · rw [hf (fun q => h2 (by simpa using (ho.1 q).2))]
          simp [z0_cellsP]
          exact fin_W (by simp [pkPR, z0_cellsP])
        · have hi1 : okI l i := ho.2 ⟨by omega, by simpa using h2⟩
          simp
          rw [wrap64 (n := (i : Int) + 1) (by omega) (by omega)]
          refine ⟨⟨i + 1, by omega, fun j hj => ?_⟩, by simp; omega, cut_w ?_⟩
          · by_cases hq : j = i
            · rw [hq]; exact hi1
            · exact hE j (by omega)
          · simp
    · have : i = 6 := by omega
      subst this
      match l, h6 with
      | [x1, x2, x3, x4, x5, x6], _ =>
        have k1 := hE 0 (by omega); have k2 := hE 1 (by omega); have k3 := hE 2 (by omega); have k4 := hE 3 (by omega); have k5 := hE 4 (by omega); have k6 := hE 5 (by omega)
        simp [okI, szs] at k1 k2 k3 k4 k5 k6
        have tg : ∀ (x : UInt8) (n : Nat) (h : n < 256), x.toNat = n → x = UInt8.ofNat n := fun x n h e => by rw [← e]; simp
        obtain ⟨p, hp, hbp, hpe⟩ := items_pk b x1 x2 x3 x4 x5 x6 hr (tg _ 1 (by omega) k1.1) (tg _ 2 (by omega) k2.1) (tg _ 3 (by omega) k3.1) (tg _ 4 (by omega) k4.1) (tg _ 5 (by omega) k5.1) (tg _ 6 (by omega) k6.1) k1.2 k2.2 k3.2 k4.2 k5.2 k6.2
        have e : parsePk b = (p, 0) := by rw [hbp, parse_pkB p hp]
        rw [e]
        obtain ⟨y, hy⟩ := List.length_eq_one_iff.1 k2.2
        simp [hy, k5.2, k6.2]
        refine WO_callP [] rfl rfl (fPNumber_list x1.val k1.2 _) (by simp) (by simp [k5.2, k6.2, hy]) ?_
        simp
        refine WO_callP [] rfl rfl (fPNumber_list x3.val k3.2 _) (by simp) (by simp [k5.2, k6.2, hy]) ?_
        simp
        refine WO_callP [] rfl rfl (fPNumber_list x4.val k4.2 _) (by simp) (by simp [k5.2, k6.2, hy]) ?_
        have eP : pkP p = .int .u32 (byN x1.val : Nat) :: bv y :: .int .u32 (byN x3.val : Nat) :: .int .u32 (byN x4.val : Nat) :: (x5.val.map bv ++ x6.val.map bv) := by rw [hpe]; simp [pkP, hy]
        simp [k5.2, k6.2, hy, List.take_of_length_le, splice_length, splice2, splice4]
        simp [z0_cellsP, splice4, k5.2, k6.2, List.take_of_length_le]
        exact fin_W (by simp [pkPR, eP])
end Go.Proofs.YthgibibeoapfbaaGreat
namespace Go.Proofs.YthgibibeoapfbaaGreat
open Go Go.Fw
attribute [local irreducible] W WX WR WO WS WSr WH WHA WG WC FSpec
attribute [local simp] WS_at_map WSr_at_map WS_at_arr WSr_at_arr loadWP splice_full Int.natCast_inj
theorem pkP_load (p : Pkt) (hp : p.Ok) : (pkP p).length = 100 ∧ (pkP p).take 100 = pkP p ∧ cleanL (pkP p) = true ∧ idsL (fun _ => false) (pkP p) = true := by
  have hh := hp.hash
  have hs := hp.sig
  have hl : (pkP p).length = 100 := by simp [pkP, hh, hs]
  exact ⟨hl, List.take_of_length_le (by omega), by simp [pkP], by simp [pkP]⟩
def p0 : Pkt := ⟨7, 0, 9, 0, List.replicate 32 0, List.replicate 64 0⟩
theorem p0_ok : p0.Ok := by constructor <;> simp [p0]
theorem p0_cells : pkP p0 = ([.int .u32 7, .int .u8 0, .int .u32 0, .int .u32 9, .int .u8 0, .int .u8 0, .int .u8 0, .int .u8 0, .int .u8 0, .int .u8 0, .int .u8 0, .int .u8 0, .int .u8 0, .int .u8 0, .int .u8 0, .int .u8 0, .int .u8 0, .int .u8 0, .int .u8 0, .int .u8 0, .int .u8 0, .int .u8 0, .int .u8 0, .int .u8 0, .int .u8 0, .int .u8 0, .int .u8 0, .int .u8 0, .int .u8 0, .int .u8 0, .int .u8 0, .int .u8 0, .int .u8 0, .int .u8 0, .int .u8 0, .int .u8 0, .int .u8 0, .int .u8 0, .int .u8 0, .int .u8 0, .int .u8 0, .int .u8 0, .int .u8 0, .int .u8 0, .int .u8 0, .int .u8 0, .int .u8 0, .int .u8 0, .int .u8 0, .int .u8 0, .int .u8 0, .int .u8 0, .int .u8 0, .int .u8 0, .int .u8 0, .int .u8 0, .int .u8 0, .int .u8 0, .int .u8 0, .int .u8 0, .int .u8 0, .int .u8 0, .int .u8 0, .int .u8 0, .int .u8 0, .int .u8 0, .int .u8 0, .int .u8 0, .int .u8 0, .int .u8 0, .int .u8 0, .int .u8 0, .int .u8 0, .int .u8 0, .int .u8 0, .int .u8 0, .int .u8 0, .int .u8 0, .int .u8 0, .int .u8 0, .int .u8 0, .int .u8 0, .int .u8 0, .int .u8 0, .int .u8 0, .int .u8 0, .int .u8 0, .int .u8 0, .int .u8 0, .int .u8 0, .int .u8 0, .int .u8 0, .int .u8 0, .int .u8 0, .int .u8 0, .int .u8 0, .int .u8 0, .int .u8 0, .int .u8 0, .int .u8 0] : List AV) := rfl
theorem fPLives_spec : FSpec Tryz.prog 4 [] [] (.bool true) [] := by
  refine FSpec.of_W fPLives_low (by simp) ?_
  simp only [initEnv]
  simp
  have h1 := fPEncode_spec p0 p0_ok
  have h2 := fPParse_spec (pkB p0) ⟨false, false, false⟩ (by rw [pkB_len p0 p0_ok]; omega)
  have h3 := fPSigned_spec p0 p0_ok
  rw [parse_pkB p0 p0_ok] at h2
  rw [p0_cells] at h1 h3
  have hl := pkB_len p0 p0_ok
  have hl2 := sgnB_len p0 p0_ok
  refine WO_callP [] rfl rfl h1 (by simp) (by simp) ?_
  simp
  refine WO_callP [] rfl rfl h2 (by simp [pkPR, p0_cells]) (by simp) ?_
  simp [pkPR, p0_cells, hl]
  refine WO_callP [] rfl rfl h3 (by simp) (by simp) ?_
  simp [hl2]
  exact ⟨rfl, fin_W (by simp)⟩
theorem hasK_pkR (p : Pkt) (hp : p.Ok) : hasK (.u32 :: .u32 :: .u32 :: .u8 :: List.replicate 96 .u8) (pkR p) = true := by
  have := hasK_bytes (p.hash ++ p.sig) (m := 96) (by simp [hp.hash, hp.sig])
  rw [List.map_append] at this
  simp only [pkR, hasK, decide_true, Bool.true_and]
  exact this
set_option maxRecDepth 100000 in
theorem fit_u32 {t : TypeId} {n : Nat} {xs : List AV} (h : Tryz.prog.underlying t = some (.int .u32)) (hf : Fit Tryz.prog (n + 1) t xs) : ∃ k : Nat, k < 2 ^ 32 ∧ xs = [.int .u32 (k : Nat)] := by
  obtain ⟨m, m1, m2, rfl⟩ := fit_int h hf
  simp [IntKind.min, IntKind.max, IntKind.signed, IntKind.bits] at m1 m2
  exact ⟨m.toNat, by omega, by rw [show ((m.toNat : Nat) : Int) = m by omega]⟩
set_option maxRecDepth 100000 in
theorem arg_pkt {a : AV} (h1 : ArgFit Tryz.prog 8 28 a) : ∃ p : Pkt, p.Ok ∧ a = .agg (pkP p) := by
  obtain ⟨xs, rfl, h⟩ := arg_struct Tryz.underlying28 h1
  obtain ⟨x1, y1, rfl, g1, x2, y2, rfl, g2, x3, y3, rfl, g3, x4, y4, rfl, g4, x5, y5, rfl, g5, x6, y6, rfl, g6, rfl⟩ := h
  obtain ⟨n1, k1, rfl⟩ := fit_u32 Tryz.underlying23 g1
  obtain ⟨ty, rfl⟩ := fit_u8 Tryz.underlying5 g2
  obtain ⟨n3, k3, rfl⟩ := fit_u32 Tryz.underlying23 g3
  obtain ⟨n4, k4, rfl⟩ := fit_u32 Tryz.underlying23 g4
  obtain ⟨h, hh, rfl⟩ := fit_bytesA Tryz.underlying22 Tryz.underlying5 g5
  obtain ⟨s, hs, rfl⟩ := fit_bytesA Tryz.underlying25 Tryz.underlying5 g6
  exact ⟨⟨n1, n3, n4, ty, h, s⟩, ⟨k1, k3, k4, hh, hs⟩, by simp [pkP]⟩
end Go.Proofs.YthgibibeoapfbaaGreat
namespace Go.Proofs.YthgibibeoapfbaaGreat
open Go Go.Fw
attribute [local irreducible] W WX WR WO WS WSr WH WHA WG WC FSpec
attribute [local simp] WS_at_map WSr_at_map WS_at_arr WSr_at_arr loadWP splice_full Int.natCast_inj
structure Lim where
  key : List UInt8
  hw : Nat
  ty : UInt8
  fl : Nat
  room : Nat
structure Lim.Ok (l : Lim) : Prop where
  key : l.key.length = 32
  hw : l.hw < 2 ^ 32
  fl : l.fl < 2 ^ 32
  room : l.room < 2 ^ 32
def lmC (l : Lim) : List AV := l.key.map bv ++ [.int .u32 (l.hw : Nat), bv l.ty, .int .u32 (l.fl : Nat), .int .u32 (l.room : Nat)]
noncomputable def chkE (p : Pkt) (l : Lim) : Int := if p.hw ≠ l.hw then 10 else if p.ty ≠ l.ty then 11 else if p.sz = 0 ∨ l.room < p.sz then 12 else if p.ver < l.fl then 13 else if verP l.key p.sig (sgnB p) = true then 0 else 9
noncomputable def chkP (b : List UInt8) (l : Lim) : Pkt × Int := if (parsePk b).2 ≠ 0 then (z0, (parsePk b).2) else if chkE (parsePk b).1 l = 0 then ((parsePk b).1, 0) else (z0, chkE (parsePk b).1 l)
theorem lm_at {l : Lim} (h : l.Ok) : atF (lmC l) 32 = ok1 (.int .u32 (l.hw : Nat)) ∧ atF (lmC l) 33 = ok1 (bv l.ty) ∧ atF (lmC l) 34 = ok1 (.int .u32 (l.fl : Nat)) ∧ atF (lmC l) 35 = ok1 (.int .u32 (l.room : Nat)) ∧ (lmC l).length = 36 ∧ (lmC l).take 32 = l.key.map bv := by
  have := h.key
  simp [atF, lmC, List.getElem?_append, this, List.take_append, List.take_of_length_le]
theorem lm_cl (l : Lim) : cleanL (lmC l) = true ∧ idsL (fun _ => false) (lmC l) = true ∧ (∀ n, ltL n (lmC l) = true) := by
  refine ⟨by simp [lmC], by simp [lmC, idsL, AV.ids], fun n => by simp [lmC, ltL, AV.ltI]⟩
theorem pk_at {p : Pkt} (h : p.Ok) : atF (pkP p) 0 = ok1 (.int .u32 (p.hw : Nat)) ∧ atF (pkP p) 1 = ok1 (bv p.ty) ∧ atF (pkP p) 2 = ok1 (.int .u32 (p.ver : Nat)) ∧ atF (pkP p) 3 = ok1 (.int .u32 (p.sz : Nat)) ∧ (pkP p).length = 100 ∧ (pkP p).take 100 = pkP p ∧ ((pkP p).drop 36).take 64 = p.sig.map bv := by
  have h1 := h.hash
  have h2 := h.sig
  simp [atF, pkP, h1, h2, List.take_of_length_le, List.drop_append]
theorem pkr_at {p : Pkt} (h : p.Ok) : atF (pkR p) 0 = ok1 (.int .u32 (p.hw : Nat)) ∧ atF (pkR p) 3 = ok1 (bv p.ty) ∧ atF (pkR p) 1 = ok1 (.int .u32 (p.ver : Nat)) ∧ atF (pkR p) 2 = ok1 (.int .u32 (p.sz : Nat)) ∧ (pkR p).length = 100 ∧ (pkR p).take 100 = pkR p ∧ ((pkR p).drop 36).take 64 = p.sig.map bv := by
  have h1 := h.hash
  have h2 := h.sig
  simp [atF, pkR, h1, h2, List.take_of_length_le, List.drop_append]
theorem parse_ok (b : List UInt8) : (parsePk b).1.Ok := by
  unfold parsePk
  split
  · rename_i h; exact rd_ok b h.1
  · exact z0_ok
set_option maxRecDepth 100000 in
set_option maxHeartbeats 4000000 in
theorem fPCheck_spec (b : List UInt8) (md : Md) (hb : b.length < 2 ^ 38) (l : Lim) (hl : l.Ok) : FSpec Tryz.prog 10 [.list 1 md (b.map bv), .agg (lmC l)] [] (pkPR (chkP b l)) [] := by
  have hP := fPParse_spec b md (by omega)
  have hok := parse_ok b
  obtain ⟨l1, l2, l3, l4, l5, l6⟩ := lm_at hl
  have hV := fSgVerify_spec l.key (parsePk b).1.sig hl.key hok.sig [(⟨false, false, false⟩, sgnB (parsePk b).1)] ⟨false, true, false⟩ (by simp [allB, sgnB_len _ hok]) (by simp)
  rw [show allB [((⟨false, false, false⟩ : Md), sgnB (parsePk b).1)] = sgnB (parsePk b).1 by simp [allB]] at hV
  simp only [List.map_cons, List.map_nil, lsV] at hV
  have hS := fPSigned_spec (parsePk b).1 hok
  obtain ⟨p1, p2, p3, p4, p5, p6, p7⟩ := pk_at hok
  obtain ⟨c1, c2, c3, c4⟩ := pkP_load _ hok
  unfold chkP chkE
  generalize parsePk b = r at *
  obtain ⟨p, e⟩ := r
  simp only at *
  refine FSpec.of_W fPCheck_low (by simp) ?_
  simp only [initEnv]
  obtain ⟨m1, m2, m3⟩ := lm_cl l
  simp [l5, m1]
  refine WO_callP [] rfl rfl hP (by simp [pkPR, c3, c4]) (by simp [pkPR, c3, c4]) ?_
  simp [pkPR, c1, c2, c3]
  have hz : ∀ n : Int, fin 0 (.tuple [.agg (pkP z0), .int .i64 n]) [] (.tuple [.agg (pkP z0), .int .i64 n]) [] := fun n => fin_W (by simp [wkrL_refl, ltL_pkP])
  by_cases he : e = 0
  · subst he
    simp
    by_cases h1 : p.hw = l.hw
    · by_cases h2 : p.ty = l.ty
      · by_cases h3 : p.sz = 0
        · simp [p1, p2, p3, p4, l1, l2, l3, l4, h1, h2, h3, pkPR]
          rw [z0_cellsP]; exact fin_W (by simp)
        by_cases h3' : l.room < p.sz
        · simp [p1, p2, p3, p4, l1, l2, l3, l4, h1, h2, h3, h3', pkPR]
          rw [z0_cellsP]; exact fin_W (by simp)
        · by_cases h4 : p.ver < l.fl
          · simp [p1, p2, p3, p4, l1, l2, l3, l4, h1, h2, h3, h3', h4, pkPR]
            rw [z0_cellsP]; exact fin_W (by simp)
          · simp [p1, p2, p3, p4, p5, p6, p7, l1, l2, l3, l4, l5, l6, h1, h2, h3, h3', h4]
            refine WO_callP [] rfl rfl hS (by simp [c3, c4]) (by simp [p5, p7, l5, l6, c1, c2, c3, c4]) ?_
            simp
            refine WO_callP [] rfl rfl hV (by simp) (by simp [p5, p7, l5, l6, c1, c2, c3, c4]) ?_
            cases verP l.key p.sig (sgnB p)
            · simp [verI, pkPR]
              rw [z0_cellsP]; exact fin_W (by simp)
            · simp [verI, pkPR, p5, p6, c2, c3]
              exact fin_W (by simp [wkrL_refl, ltL_pkP])
      · have h2' : ¬ p.ty.toNat = l.ty.toNat := fun h => h2 (UInt8.toNat_inj.1 h)
        simp [p1, p2, l1, l2, h1, h2, h2', pkPR]
        rw [z0_cellsP]; exact fin_W (by simp)
    · simp [p1, l1, h1, pkPR]
      rw [z0_cellsP]; exact fin_W (by simp)
  · simp [he, pkPR]
    rw [z0_cellsP]; exact fin_W (by simp)
set_option maxRecDepth 100000 in
set_option maxHeartbeats 4000000 in
theorem fPRCheck_spec (b : List UInt8) (md : Md) (hb : b.length < 2 ^ 38) (l : Lim) (hl : l.Ok) : FSpec Tryz.prog 11 [.list 1 md (b.map bv), .agg (lmC l)] [] (pkRR (chkP b l)) [] := by
  have hP := fPRParse_spec b md (by omega)
  have hok := parse_ok b
  have hpz : (parsePk b).2 ≠ 0 → (parsePk b).1 = z0 := by
    unfold parsePk
    split
    · simp
    · simp
  obtain ⟨l1, l2, l3, l4, l5, l6⟩ := lm_at hl
  have hV := fRSgVerify_spec l.key (parsePk b).1.sig (sgnB (parsePk b).1) hl.key hok.sig ⟨false, false, false⟩ (by rw [sgnB_len _ hok]; omega)
  have hS := fPRSigned_spec (parsePk b).1 hok
  obtain ⟨p1, p2, p3, p4, p5, p6, p7⟩ := pkr_at hok
  obtain ⟨c1, c2, c3, c4, _⟩ := pkR_load _ hok
  unfold chkP chkE
  generalize parsePk b = r at *
  obtain ⟨p, e⟩ := r
  simp only at *
  refine FSpec.of_W fPRCheck_low (by simp) ?_
  simp only [initEnv]
  obtain ⟨m1, m2, m3⟩ := lm_cl l
  simp [l5, m1]
  refine WO_callP [] rfl rfl hP (by simp [pkRR, c3, c4]) (by simp [pkRR, c3, c4]) ?_
  simp [pkRR, c1, c2, c3]
  by_cases he : e = 0
  · subst he
    simp
    by_cases h1 : p.hw = l.hw
    · by_cases h2 : p.ty = l.ty
      · by_cases h3 : p.sz = 0
        · simp [p1, p2, p3, p4, l1, l2, l3, l4, h1, h2, h3, pkRR]
          rw [z0_cells]; exact fin_W (by simp)
        by_cases h3' : l.room < p.sz
        · simp [p1, p2, p3, p4, l1, l2, l3, l4, h1, h2, h3, h3', pkRR]
          rw [z0_cells]; exact fin_W (by simp)
        · by_cases h4 : p.ver < l.fl
          · simp [p1, p2, p3, p4, l1, l2, l3, l4, h1, h2, h3, h3', h4, pkRR]
            rw [z0_cells]; exact fin_W (by simp)
          · simp [p1, p2, p3, p4, p5, p6, p7, l1, l2, l3, l4, l5, l6, h1, h2, h3, h3', h4]
            refine WO_callP [] rfl rfl hS (by simp [c3, c4]) (by simp [p5, p7, l5, l6, c1, c2, c3, c4]) ?_
            simp
            refine WO_callP [] rfl rfl hV (by simp) (by simp [p5, p7, l5, l6, c1, c2, c3, c4]) ?_
            cases verP l.key p.sig (sgnB p)
            · simp [pkRR]
              rw [z0_cells]; exact fin_W (by simp)
            · simp [pkRR, p5, p6, c2, c3]
              exact fin_W (by simp [wkrL_refl, ltL_pkR])
      · have h2' : ¬ p.ty.toNat = l.ty.toNat := fun h => h2 (UInt8.toNat_inj.1 h)
        simp [p1, p2, l1, l2, h1, h2, h2', pkRR]
        rw [z0_cells]; exact fin_W (by simp)
    · simp [p1, l1, h1, pkRR]
      rw [z0_cells]; exact fin_W (by simp)
  · have hz := hpz he
    subst hz
    simp [he, pkRR, p5, p6, c2, c3]
    exact fin_W (by simp [wkrL_refl, ltL_pkR])
end Go.Proofs.YthgibibeoapfbaaGreat
namespace Go.Proofs.YthgibibeoapfbaaGreat
open Go.Fw
set_option maxRecDepth 100000
set_option maxHeartbeats 4000000
@[reducible] def fPEncode2 : KCode := by
  refine (?f : lowF Tryz.progTables Tryz.f9 [(1, 6)] [(1, [0, 2, 3, 4, 5, 1, 6, 7, 8, 9, 10, 11, 12])] = ?c → annF false [] [0] ?c = ?k → KCode) ?h ?i
  case h => cbv; exact rfl
  case i => cbv; exact rfl
  exact fun _ _ => ?k
theorem fPEncode2_low : lowFunc Tryz.prog 9 [(1, 6)] [(1, [0, 2, 3, 4, 5, 1, 6, 7, 8, 9, 10, 11, 12])] = some ⟨fPEncode2.bare, [.tmp 2], 17⟩ := by kernel_rfl
end Go.Proofs.YthgibibeoapfbaaGreat
namespace Go.Proofs.YthgibibeoapfbaaGreat
open Go Go.Fw
attribute [local irreducible] W WX WR WO WS WSr WH WHA WG WC FSpec
attribute [local simp] WS_at_map WSr_at_map WS_at_arr WSr_at_arr loadWP splice_full Int.natCast_inj
theorem fTEncode_own (l : List It2) (md : Md) (hl : l.length < 2 ^ 62) (res : List UInt8) (hr : tlvE l 0 0 [] = (res, 0)) : FSpec Tryz.prog 26 [.list 2 md (cells2 l)] [] (.tuple [.slice 1 0 0 res.length none, .int .i64 0]) [some ⟨res.map bv, 5, false⟩] := by
  refine FSpec.of_W fTEncode_low (by simp) ?_
  simp only [initEnv]
  simp
  refine W_loop (X := { s : Nat × UInt8 × List UInt8 // s.1 ≤ l.length ∧ s.1 ≤ 16 ∧ s.2.2.length ≤ s.1 * 202 ∧ tlvE (l.drop s.1) s.2.1 s.1 s.2.2 = (res, 0) })
    (fun s => [(4, .slice 1 0 0 s.1.2.2.length none), (5, .int .u8 s.1.2.1.toNat), (8, .list 2 md (cells2 l)), (9, .int .i64 l.length), (10, .int .i64 s.1.1)]) (fun s => [some ⟨s.1.2.2.map bv, 5, false⟩]) (fun s => l.length - s.1.1) ⟨(0, 0, []), by simp, by simp, by simp, hr⟩ retPost_le ?_ ?_
  · refine cut_trans (cut_ghost 4 1 5 (by simp) rfl rfl) (cut_w ?_)
    simp
  · rintro ⟨⟨i, last, out⟩, hi, h16, ho, he⟩
    simp only at hi h16 ho he ⊢
    simp
    refine WC_dec (fun hlt => ?_) (fun hlt => ?_)
    · obtain ⟨x, r, hd⟩ : ∃ x r, l.drop i = x :: r := ⟨l[i], l.drop (i+1), by simp⟩
      rw [hd, tlvE] at he
      simp [hd]
      refine ⟨hlt, ?_⟩
      refine WC_dec (fun h7 => ?_) (fun h7 => ?_)
      · rw [if_pos (UInt8.le_iff_toNat_le.2 (by omega))] at he
        cases he
      rw [if_neg (fun q => h7 (by have := UInt8.le_iff_toNat_le.1 q; omega))] at he
      simp
      refine WG_decF (fun h8 => ?_) (fun h8 => ?_)
      · rw [if_pos (.inl (by omega))] at he
        cases he
      simp
      refine WC_dec (fun h9 => ?_) (fun h9 => ?_)
      · rw [if_pos (.inr (by omega))] at he
        cases he
      rw [if_neg (by omega)] at he
      have e1 : List.take out.length (out.map bv) = out.map bv := List.take_of_length_le (by simp)
      have e2 : List.take (out.length + 2) (out.map bv ++ [bv x.tag, bv (UInt8.ofNat x.val.length)]) = out.map bv ++ [bv x.tag, bv (UInt8.ofNat x.val.length)] := List.take_of_length_le (by simp)
      simp [wrap8_len (show x.val.length ≤ 200 by omega), e1]
      rw [wrap64 (by omega) (by omega)]
      have hl2 : (out ++ [x.tag, UInt8.ofNat x.val.length] ++ x.val).length = out.length + 2 + x.val.length := by simp; omega
      have hd2 : l.drop (i + 1) = r := by rw [← List.drop_drop, hd]; rfl
      refine ⟨by omega, by omega, ⟨(i + 1, x.tag, out ++ [x.tag, UInt8.ofNat x.val.length] ++ x.val), by simp; omega, by simp; omega, by simp only [hl2]; omega, by simp only [hd2]; exact he⟩, by simp; omega, ?_⟩
      refine cut_ren [3] (by simp) rfl ?_ ?_
      · simp [bwd, rnS]
        omega
      · simp [bwd] at e2 ⊢
        rw [e2]
        simp
    · rw [List.drop_of_length_le (by omega), tlvE] at he
      cases he
      simp
      exact fin_W (by simp)
theorem fPEncode_own (p : Pkt) (hp : p.Ok) : FSpec Tryz.prog 9 [.agg (pkP p)] [] (.slice 1 0 0 121 none) [some ⟨(pkB p).map bv, 5, false⟩] := by
  have hh := hp.hash
  have hs := hp.sig
  have hi := fPItems_spec p hp
  have hpb := pkB_len p hp
  have he := fTEncode_own (pkItems p ++ [⟨6, p.sig⟩]) ⟨false, false, false⟩ (by simp [pkItems]) (pkB p) (tlvE_all p hp)
  have hc : cleanL (pkP p) = true := by simp [pkP]
  have hl : (pkP p).length = 100 := by simp [pkP, hh, hs]
  have ht : (pkP p).take 100 = pkP p := List.take_of_length_le (by omega)
  have hid : idsL (fun _ => false) (pkP p) = true := by simp [pkP]
  have hd : ((pkP p).drop 36).take 64 = p.sig.map bv := by
    have h32 : (p.hash.map bv).length = 32 := by simp [hh]
    simp [pkP, List.drop_append, h32, hs, List.take_of_length_le]
  refine FSpec.of_W fPEncode2_low (by simp) ?_
  simp only [initEnv]
  simp [hc]
  refine W_cut (cut_frz 0 rfl) ?_
  simp [hl, ht, hd]
  refine WO_callP [] rfl rfl hi (by simp [hid]) (by simp [hl, hd]) ?_
  have hpl : (pkItems p).length = 5 := rfl
  simp [hpl]
  have hw : FSpec Tryz.prog 26 [.list 2 ⟨false, false, false⟩ (cells2 (pkItems p) ++ [.int .u8 6, .list 1 ⟨false, true, false⟩ (p.sig.map bv)])] [] (.tuple [.slice 1 0 0 (pkB p).length none, .int .i64 0]) [some ⟨(pkB p).map bv, 5, false⟩] := FSpec.wk (by simp [pkItems, cells2_append, cells2_cons]) he
  refine WO_callF [] (as' := [.list 2 ⟨false, false, false⟩ (cells2 (pkItems p) ++ [.int .u8 6, .list 1 ⟨false, true, false⟩ (p.sig.map bv)])]) rfl (by simp) hw (by simp) (by simp) (by simp) ?_
  simp [hpb]
  exact fin_R [1] (by simp) rfl (by simp) (H1 := [some ⟨(pkB p).map bv, 5, false⟩]) (by simp) (fin_W (by simp))
theorem lim_z (K : List AV) (h : K.length = 32) : splice [.int .u8 0, .int .u8 0, .int .u8 0, .int .u8 0, .int .u8 0, .int .u8 0, .int .u8 0, .int .u8 0, .int .u8 0, .int .u8 0, .int .u8 0, .int .u8 0, .int .u8 0, .int .u8 0, .int .u8 0, .int .u8 0, .int .u8 0, .int .u8 0, .int .u8 0, .int .u8 0, .int .u8 0, .int .u8 0, .int .u8 0, .int .u8 0, .int .u8 0, .int .u8 0, .int .u8 0, .int .u8 0, .int .u8 0, .int .u8 0, .int .u8 0, .int .u8 0, .int .u32 0, .int .u8 0, .int .u32 0, .int .u32 0] 0 K = K ++ [.int .u32 0, .int .u8 0, .int .u32 0, .int .u32 0] := by
  rw [splice_take_drop _ _ _ (by simp [h])]; simp [h]
theorem lim_1 (K : List AV) (a b c d x : AV) (h : K.length = 32) : splice (K ++ [a, b, c, d]) 32 [x] = K ++ [x, b, c, d] := by
  rw [splice_take_drop _ _ _ (by simp [h])]; simp [h, List.take_append, List.drop_append, List.take_of_length_le]
theorem lim_2 (K : List AV) (a b c d x : AV) (h : K.length = 32) : splice (K ++ [a, b, c, d]) 33 [x] = K ++ [a, x, c, d] := by
  rw [splice_take_drop _ _ _ (by simp [h])]; simp [h, List.take_append, List.drop_append, List.take_of_length_le]
theorem lim_3 (K : List AV) (a b c d x : AV) (h : K.length = 32) : splice (K ++ [a, b, c, d]) 34 [x] = K ++ [a, b, x, d] := by
  rw [splice_take_drop _ _ _ (by simp [h])]; simp [h, List.take_append, List.drop_append, List.take_of_length_le]
theorem lim_4 (K : List AV) (a b c d x : AV) (h : K.length = 32) : splice (K ++ [a, b, c, d]) 35 [x] = K ++ [a, b, c, x] := by
  rw [splice_take_drop _ _ _ (by simp [h])]; simp [h, List.take_append, List.drop_append, List.take_of_length_le]
@[reducible] def pcRest : KCode := match fPChecks with
  | .seq _ (.seq _ (.kill _ (.seq _ (.cut c)))) => c
  | _ => .skip
@[reducible] def pcLast : KCode := match pcRest with
  | .keep _ (.seq _ (.seq _ (.cut c))) => c
  | _ => .skip
theorem chk_ok (b : List UInt8) (l : Lim) : (chkP b l).1.Ok := by
  unfold chkP
  split
  · exact z0_ok
  · split
    · exact parse_ok b
    · exact z0_ok
set_option maxRecDepth 100000 in
set_option maxHeartbeats 4000000 in
theorem pc_last (b : List UInt8) (l : Lim) (hl : l.Ok) (hb : b.length = 121) (x3 x4 : Option Blk) (k : List Nat) (h5 : k = []) :
    W Tryz.prog 0 [.c pcLast] [(5, .ptr 2 0), (7, .list 1 ⟨false, false, false⟩ (b.map bv))] [x3, x4, some ⟨lmC l, 31, true⟩, none] (retPost [.tmp 6] (fin 0 (.bool true) [])) := by
  have hP := fPCheck_spec b ⟨false, false, false⟩ (by omega) l hl
  have hR := fPRCheck_spec b ⟨false, false, false⟩ (by omega) l hl
  have ho := fPOf_spec _ (chk_ok b l)
  have hc := chk_ok b l
  generalize chkP b l = r at *
  obtain ⟨q, e⟩ := r
  simp only at *
  obtain ⟨l1, l2, l3, l4, l5, l6⟩ := lm_at hl
  obtain ⟨m1, m2, m3⟩ := lm_cl l
  obtain ⟨p1, p2, p3, p4⟩ := pkP_load _ hc
  obtain ⟨r1, r2, r3, r4, _⟩ := pkR_load _ hc
  have lt : (lmC l).take 36 = lmC l := List.take_of_length_le (by omega)
  have hK := hasK_pkR q hc
  simp only [pcLast, pcRest]
  simp [l5, lt, m1]
  refine WO_callP [] rfl rfl hP (by simp [pkPR, m1, m2, p3, p4]) (by simp [pkPR]) ?_
  have hk : (l.key.map bv).length = 32 := by simp [hl.key]
  simp [pkPR, p1, p2, p3, l1, l2, l3, l4, l5, l6, hl.key, lim_z _ hk, lim_1 _ _ _ _ _ _ hk, lim_2 _ _ _ _ _ _ hk, lim_3 _ _ _ _ _ _ hk, lim_4 _ _ _ _ _ _ hk]
  refine WO_callP [] rfl rfl hR (by simp [pkRR, m1, m2, r3, r4, lmC, idsL, AV.ids]) (by simp [pkRR]) ?_
  simp [pkRR, r1, r2, r3, p1, p2]
  refine WO_callP (as' := [.agg (pkP q)]) [] rfl (by simp [pkP_load q hc]) ho (by simp [pkP_load q hc, pkR_load q hc]) (by simp [pkR_load q hc]) ?_
  simp [pkR_load q hc]
  exact ⟨hK, fin_W (by simp)⟩
set_option maxRecDepth 100000 in
set_option maxHeartbeats 4000000 in
theorem pc_rest (p : Pkt) (hp : p.Ok) (l : Lim) (hl : l.Ok) (s : List UInt8) :
    W Tryz.prog 0 [.c pcRest] [(4, .ptr 1 0), (5, .ptr 2 0)] [some ⟨s.map bv, 22, true⟩, some ⟨pkP p, 28, true⟩, some ⟨lmC l, 31, true⟩] (retPost [.tmp 6] (fin 0 (.bool true) [])) := by
  have hE := fPEncode_own p hp
  have hpb := pkB_len p hp
  obtain ⟨l1, l2, l3, l4, l5, l6⟩ := lm_at hl
  obtain ⟨p1, p2, p3, p4⟩ := pkP_load _ hp
  have hfl := hl.fl
  have hrm := hl.room
  simp only [pcRest]
  simp [p1, p2]
  obtain ⟨i, hi, ei⟩ : ∃ k : Nat, k < 121 ∧ (l.fl : Int).tmod 121 = k := ⟨l.fl % 121, Nat.mod_lt _ (by decide), rfl⟩
  obtain ⟨k, hk, ek⟩ : ∃ k : Nat, k < 8 ∧ (l.room : Int).tmod 8 = k := ⟨l.room % 8, Nat.mod_lt _ (by decide), rfl⟩
  have wi : IntKind.i64.wrap (i : Int) = i := wrap64s (by omega) (by omega)
  refine WO_callF [] (as' := [.agg (pkP p)]) rfl (by simp [pkP]) hE (by simp [p4]) (by simp) (by simp) ?_
  simp [l4]
  generalize pkB p = b at *
  have key : ∀ b : List UInt8, b.length = 121 → W Tryz.prog 0 [.c (.cut pcLast)] [(5, .ptr 2 0), (7, .slice 1 3 0 121 none)] [some ⟨s.map bv, 22, true⟩, some ⟨pkP p, 28, true⟩, some ⟨lmC l, 31, true⟩, some ⟨b.map bv, 5, false⟩] (retPost [.tmp 6] (fin 0 (.bool true) [])) := by
    intro b hb
    refine W_cut (e0 := [(5, .ptr 2 0), (7, .list 1 ⟨false, false, false⟩ (b.map bv))]) (H0 := [some ⟨s.map bv, 22, true⟩, some ⟨pkP p, 28, true⟩, some ⟨lmC l, 31, true⟩, none]) (cut_trans (cut_frz 3 rfl) (cut_w ?_)) (pc_last b l hl hb _ _ [] rfl)
    simp [hb, List.take_of_length_le, pkP, lmC]
  refine WC_dec (fun h5 => ?_) (fun h5 => ?_)
  · obtain ⟨g, hg⟩ : ∃ g : UInt8, b[i]? = some g := ⟨_, List.getElem?_eq_getElem (by omega)⟩
    simp [l3, l4, ei, ek, wi, hg, hpb, hi]
    refine ⟨by omega, by omega, ?_⟩
    rw [set_bv _ _ _ (xor8 _ _)]
    exact key _ (by simp [hpb])
  · simp
    exact key _ hpb
theorem lm_key (l : Lim) (h : l.key.length = 32) (K : List UInt8) (hK : K.length = 32) : splice (lmC l) 0 (K.map bv) = lmC { l with key := K } := by
  rw [splice_take_drop _ _ _ (by simp [lmC, h, hK])]
  simp [lmC, h, hK]
theorem pk_sig (p : Pkt) (hp : p.Ok) (S : List UInt8) (hS : S.length = 64) : splice (pkP p) 36 (S.map bv) = pkP { p with sig := S } := by
  have h1 := hp.hash
  have h2 := hp.sig
  rw [splice_take_drop _ _ _ (by simp [pkP, h1, h2, hS])]
  simp [pkP, h1, h2, hS, List.take_append, List.take_of_length_le, List.drop_append, List.drop_of_length_le]
set_option maxRecDepth 100000 in
set_option maxHeartbeats 4000000 in
theorem fPacketChecks_spec (s : List UInt8) (hs : s.length = 32) (p : Pkt) (hp : p.Ok) (l : Lim) (hl : l.Ok) : FSpec Tryz.prog 3 [.agg (s.map bv), .agg (pkP p), .agg (lmC l)] [] (.bool true) [] := by
  have hL := fPLives_spec
  have hP := fRSgPublic_spec s hs
  have hG := fRSgSign_spec s (sgnB p) ⟨false, false, false⟩ hs (by rw [sgnB_len p hp]; omega)
  have kl := ptB_len (secN s)
  have gl := sgL_len s (sgnB p)
  have ho := fPOf_spec p hp
  have hS := fPRSigned_spec p hp
  obtain ⟨l1, l2, l3, l4, l5, l6⟩ := lm_at hl
  obtain ⟨m1, m2, m3⟩ := lm_cl l
  obtain ⟨p1, p2, p3, p4⟩ := pkP_load _ hp
  obtain ⟨r1, r2, r3, r4, _⟩ := pkR_load _ hp
  generalize sgL s (sgnB p) = G at *
  generalize ptB (secN s) = K at *
  have kt : List.take 32 (s.map bv) = s.map bv := List.take_of_length_le (by simp [hs])
  refine FSpec.of_W fPChecks_low (by simp) ?_
  simp only [initEnv]
  simp [m1, p3]
  refine WO_callP [] rfl rfl hL (by simp) (by simp) ?_
  simp [l3]
  refine WC_dec (fun h2 => ?_) (fun h2 => ?_)
  · simp [hs, kt]
    refine WO_callP [] rfl rfl hP (by simp) (by simp) ?_
    simp [kl, l5, m1, lm_key l hl.key K kl]
    refine ⟨by omega, by omega, ?_⟩
    refine WO_callP (as' := [.agg (pkP p)]) [] rfl (by simp [p2]) ho (by simp [p3, p4, r3, r4]) (by simp [hs, p1, p2]) ?_
    simp
    refine WO_callP [] rfl rfl hS (by simp [r3, r4]) (by simp [hs, p1, p2]) ?_
    simp [kt]
    refine WO_callP [] rfl rfl hG (by simp) (by simp [hs, p1, p2]) ?_
    simp [gl, p1, p3, pk_sig p hp G gl]
    refine W_cut (cut_w ?_) (pc_rest { p with sig := G } ⟨hp.hw, hp.ver, hp.sz, hp.hash, gl⟩ { l with key := K } ⟨kl, hl.hw, hl.fl, hl.room⟩ s)
    simp [wkrL_refl, ltL_pkP, (lm_cl _).2.2]
  · simp
    refine W_cut (cut_w ?_) (pc_rest p hp l hl s)
    simp [wkrL_refl, ltL_pkP, (lm_cl _).2.2]
set_option maxRecDepth 100000 in
theorem arg_lim {a : AV} (h1 : ArgFit Tryz.prog 8 31 a) : ∃ l : Lim, l.Ok ∧ a = .agg (lmC l) := by
  obtain ⟨xs, rfl, h⟩ := arg_struct Tryz.underlying31 h1
  obtain ⟨x1, y1, rfl, g1, x2, y2, rfl, g2, x3, y3, rfl, g3, x4, y4, rfl, g4, x5, y5, rfl, g5, rfl⟩ := h
  obtain ⟨k, hk, rfl⟩ := fit_bytesA Tryz.underlying29 Tryz.underlying5 g1
  obtain ⟨n2, k2, rfl⟩ := fit_u32 Tryz.underlying23 g2
  obtain ⟨ty, rfl⟩ := fit_u8 Tryz.underlying5 g3
  obtain ⟨n4, k4, rfl⟩ := fit_u32 Tryz.underlying23 g4
  obtain ⟨n5, k5, rfl⟩ := fit_u32 Tryz.underlying23 g5
  exact ⟨⟨k, n2, ty, n4, n5⟩, ⟨hk, k2, k4, k5⟩, by simp [lmC]⟩
set_option maxRecDepth 100000 in
theorem fPacketChecks_law : ∀ args, AllFit Tryz.prog 8 Tryz.f3.params.toList args → FSpec Tryz.prog 3 args [] (.bool true) [] := by
  intro args has
  rw [show Tryz.f3.params.toList = [22, 28, 31] from by rw [Tryz.params3]] at has
  obtain ⟨a, as1, rfl, h1, has⟩ := all_cons has
  obtain ⟨b, as2, rfl, h2, has⟩ := all_cons has
  obtain ⟨c, as3, rfl, h3, has⟩ := all_cons has
  cases all_nil has
  obtain ⟨s, hs, rfl⟩ := arg_bytesA Tryz.underlying22 Tryz.underlying5 h1
  obtain ⟨p, hp, rfl⟩ := arg_pkt h2
  obtain ⟨l, hl, rfl⟩ := arg_lim h3
  exact fPacketChecks_spec s hs p hp l hl
end Go.Proofs.YthgibibeoapfbaaGreat
