/-
  Codes, contracts and laws, part 2.
-/
import Derived.Test.YthgibibeoapfbaaOwnA
import Derived.Test.YthgibibeoapfbaaRows
set_option linter.unusedSimpArgs false
set_option linter.unnecessarySimpa false
set_option linter.unusedVariables false
set_option linter.unusedSectionVars false
namespace Go.Proofs.Ythgibibeoapfbaa
open Go Go.Fw
attribute [local irreducible] W WX WR WO WS WSr WH WHA WG WC FSpec
attribute [local simp] WS_at_map WSr_at_map WS_at_arr WSr_at_arr loadWP splice_full Int.natCast_inj arr_set arr_take
theorem fStart_spec : FSpec Try.prog 103 [] [] (.list 1 ⟨false, false, false⟩ (shaS.map (nV .u64))) [] := by
  refine FSpec.of_W fStart_low (by simp) ?_
  simp only [initEnv]
  simp
  exact fin_W (by simp [shaS, nV])
theorem fWords_spec : FSpec Try.prog 104 [] [] (.list 1 ⟨false, false, false⟩ (shaW.map (nV .u64))) [] := by
  refine FSpec.of_W fWords_low (by simp) ?_
  simp only [initEnv]
  simp
  exact fin_W (by simp [shaW, nV])
theorem shaS_len : shaS.length = 8 := rfl
theorem shaW_len : shaW.length = 80 := rfl
theorem zN_ok {m : Nat} (hm : OkM m) (L j : Nat) (hj : j ≤ zN (2 * m) (14 * (m / 8)) (L % (2 * m))) : (L + (1 + j)) % (2 * m) = 14 * (m / 8) ↔ j = zN (2 * m) (14 * (m / 8)) (L % (2 * m)) := by
  rcases hm with rfl | rfl
  · have h := zN_64 (L % 64) j (Nat.mod_lt _ (by decide)) hj
    rw [show 2 * 32 = 64 from rfl, show 14 * (32 / 8) = 56 from rfl] at *
    rw [← h]; omega
  · have h := zN_128 (L % 128) j (Nat.mod_lt _ (by decide)) hj
    rw [show 2 * 64 = 128 from rfl, show 14 * (64 / 8) = 112 from rfl] at *
    rw [← h]; omega
theorem tail_mod {m : Nat} (hm : OkM m) (L : Nat) : (L + (tailB m L).length) % (2 * m) = 0 := by
  have hz := zN_ok hm L (zN (2 * m) (14 * (m / 8)) (L % (2 * m))) (Nat.le_refl _)
  have h := hz.2 rfl
  rcases hm with rfl | rfl
  · simp [tailB, be8_len] at *; omega
  · simp [tailB, be8_len] at *; omega
set_option maxHeartbeats 2000000 in
theorem fSum3_spec {m : Nat} (F : Sha m) (hm : OkM m) (hF : OkF F) (b : List UInt8) (md : Md) (hb : b.length < 2 ^ 40) : FSpec Try.prog 58 [.agg (frm F), .list 1 md (b.map bv)] [] (.list 1 ⟨false, false, false⟩ ((dgst F b).map bv)) [] := by
  obtain ⟨sz, hsz⟩ : ∃ sz, sz = m / 8 := ⟨_, rfl⟩
  have hms : (m = 32 ∧ sz = 4) ∨ (m = 64 ∧ sz = 8) := by rcases hm with h | h <;> omega
  have e8 : (m : Int).tdiv 8 = (sz : Int) := by rw [hsz]; rfl
  obtain ⟨L, hL⟩ : ∃ L, L = b.length := ⟨_, rfl⟩
  obtain ⟨z, hz⟩ : ∃ z, z = zN (2 * m) (14 * (m / 8)) (L % (2 * m)) := ⟨_, rfl⟩
  have hzl : z < 2 * m := by rw [hz]; exact zN_lt _ _ _ (by omega)
  refine FSpec.of_W fSum3_low (by simp) ?_
  simp only [initEnv]
  simp [frm, e8, wrap64s (n := (sz : Int)) (by omega) (by omega), List.take_of_length_le]
  refine ⟨by omega, by omega, ?_⟩
  refine W_loop (X := { j : Nat // j ≤ z }) (fun j => [(1, .list 1 md (b.map bv)), (2, .ptr 0 0), (5, .int .i64 sz), (6, .slice 1 1 0 (L + 1 + j.1) none)])
    (fun j => [some ⟨frm F, 109, true⟩, some ⟨(b ++ 128 :: List.replicate j.1 0).map bv, 5, false⟩]) (fun j => z - j.1) ⟨0, by omega⟩ retPost_le ?_ ?_
  · refine cut_rw [0, 2] (by simp) rfl (by simp [hL]) ?_
    simp [frm]
  rintro ⟨j, hj⟩
  have hzj := zN_ok hm L j (by omega)
  rw [← hz, ← hsz] at hzj
  obtain ⟨w, hw⟩ : ∃ w, w = L + 1 + j := ⟨_, rfl⟩
  obtain ⟨B, hB⟩ : ∃ B, B = 16 * sz := ⟨_, rfl⟩
  obtain ⟨T, hT⟩ : ∃ T, T = 14 * sz := ⟨_, rfl⟩
  obtain ⟨v, hv⟩ : ∃ v, v = w % B := ⟨_, rfl⟩
  have e1 : IntKind.i64.wrap (16 * (sz : Int)) = (B : Int) := by rw [wrap64s (by omega) (by omega)]; omega
  have e2 : IntKind.i64.wrap (14 * (sz : Int)) = (T : Int) := by rw [wrap64s (by omega) (by omega)]; omega
  have e3 : (w : Int).tmod (B : Int) = (v : Int) := by rw [hv]; rfl
  have hvT : v = T ↔ j = z := by rw [← hzj, hv, hw, hB, hT, show 2 * m = 16 * sz by omega, Nat.add_assoc]
  simp only
  rw [← hw]
  simp [e1, e2, e3, show ¬ (B : Int) = 0 by omega, show ¬ B = 0 by omega]
  refine WC_ndec (fun h => ?_) (fun h => ?_)
  · have hjl : j < z := by omega
    simp
    refine ⟨by omega, ⟨j + 1, by omega⟩, by simp; omega, ?_⟩
    refine cut_rw [0, 2] (by simp) rfl (by simp; omega) ?_
    have hfl : (b.map bv ++ AV.int IntKind.u8 128 :: List.replicate j (AV.int IntKind.u8 0)).take w = b.map bv ++ AV.int IntKind.u8 128 :: List.replicate j (AV.int IntKind.u8 0) := List.take_of_length_le (by simp; omega)
    rw [hfl]
    simp [List.replicate_succ']
  have hjz : j = z := hvT.1 (by omega)
  obtain ⟨A0, hA0⟩ : ∃ A0, A0 = b ++ 128 :: List.replicate z 0 := ⟨_, rfl⟩
  have hA0l : A0.length = w := by rw [hA0]; simp; omega
  have hA0m : b.map bv ++ AV.int IntKind.u8 128 :: List.replicate z (AV.int IntKind.u8 0) = A0.map bv := by rw [hA0]; simp
  subst hjz
  simp [hA0m]
  refine W_loop (X := { i : Nat // i ≤ 2 * sz }) (fun i => [(1, .list 1 md (b.map bv)), (2, .ptr 0 0), (5, .int .i64 sz), (6, .slice 1 1 0 (A0.length + i.1) none), (7, .int .i64 i.1)])
    (fun i => [some ⟨frm F, 109, true⟩, some ⟨(A0 ++ lnB m L i.1).map bv, 5, false⟩]) (fun i => 2 * sz - i.1) ⟨0, by omega⟩ retPost_le ?_ ?_
  · exact cut_w (by simp [hA0l, lnB])
  rintro ⟨i, hi⟩
  have e4 : IntKind.i64.wrap (2 * (sz : Int)) = ((2 * sz : Nat) : Int) := by rw [wrap64s (by omega) (by omega)]; omega
  obtain ⟨S2, hS2⟩ : ∃ S2, S2 = 2 * sz := ⟨_, rfl⟩
  rw [← hS2] at e4
  simp only
  simp [e4]
  refine WC_dec (fun h => ?_) (fun h => ?_)
  · obtain ⟨at', hat⟩ : ∃ a, a = m / 4 - 1 - i := ⟨_, rfl⟩
    have e5 : IntKind.i64.wrap (IntKind.i64.wrap ((S2 : Int) - 1) - (i : Int)) = (at' : Int) := by
      rw [wrap64s (n := (S2 : Int) - 1) (by omega) (by omega), wrap64s (by omega) (by omega)]; omega
    have hls := lnB_succ m L i
    rw [← hat] at hls
    simp [e4, e5]
    refine WC_dec (fun g => ?_) (fun g => ?_)
    · have g' : at' < 8 := by omega
      obtain ⟨N8, hN8⟩ : ∃ N8, N8 = 8 * L := ⟨_, rfl⟩
      obtain ⟨a8, ha8⟩ : ∃ a8, a8 = 8 * at' := ⟨_, rfl⟩
      have e6 : IntKind.u64.wrap (IntKind.i64.wrap (8 * (L : Int))) = (N8 : Int) := by
        rw [wrap64s (by omega) (by omega), show 8 * (L : Int) = ((8 * L : Nat) : Int) by simp, wrapu64]; omega
      have e7 : IntKind.i64.wrap (8 * (at' : Int)) = (a8 : Int) := by rw [wrap64s (by omega) (by omega)]; omega
      have e9 : IntKind.u8.wrap (((N8 : Nat) : Int).fdiv (2 ^ min a8 64)) = ((UInt8.ofNat (N8 / 2 ^ a8)).toNat : Int) := by
        rw [show min a8 64 = a8 by omega, shr_nat, wrap8_u8]
      rw [if_pos g', ← hN8, ← ha8] at hls
      simp [← hL, e6, e7, e9, IntKind.bits, lnB_len]
      refine ⟨by omega, ⟨i + 1, by omega⟩, by simp; omega, ?_⟩
      refine cut_rw [0, 2] (by simp) rfl (by simp [Nat.add_assoc, wrap64s (n := (i : Int) + 1) (by omega) (by omega)]) ?_
      have hfl : (A0.map bv ++ (lnB m L i).map bv).take (A0.length + i) = A0.map bv ++ (lnB m L i).map bv := List.take_of_length_le (by simp [lnB_len])
      rw [hfl]
      simp [hls]
    · have g' : ¬ at' < 8 := by omega
      rw [if_neg g'] at hls
      simp [lnB_len]
      refine ⟨by omega, ⟨i + 1, by omega⟩, by simp; omega, ?_⟩
      refine cut_rw [0, 2] (by simp) rfl (by simp [Nat.add_assoc, wrap64s (n := (i : Int) + 1) (by omega) (by omega)]) ?_
      have hfl : (A0.map bv ++ (lnB m L i).map bv).take (A0.length + i) = A0.map bv ++ (lnB m L i).map bv := List.take_of_length_le (by simp [lnB_len])
      rw [hfl]
      simp [hls]
  have hi2 : i = 2 * sz := by omega
  obtain ⟨ALL, hALL⟩ : ∃ ALL, ALL = A0 ++ lnB m L (2 * sz) := ⟨_, rfl⟩
  have hAt : ALL = b ++ tailB m b.length := by
    rw [hALL, hA0, show 2 * sz = m / 4 by omega, lnB_all L hm, hz, hL]
    simp [tailB]
  have hAm : A0.map bv ++ (lnB m L (2 * sz)).map bv = ALL.map bv := by rw [hALL]; simp
  have hAl : ALL.length = A0.length + 2 * sz := by rw [hALL]; simp [lnB_len]
  have hmod := tail_mod hm b.length
  have hAl2 : ALL.length = b.length + (tailB m b.length).length := by rw [hAt]; simp
  subst hi2
  simp [hAm]
  refine W_loop (X := { i : Nat // i ≤ 8 }) (fun i => [(2, .ptr 0 0), (5, .int .i64 sz), (6, .slice 1 1 0 ALL.length none), (9, .slice 1 2 0 i.1 none), (10, .int .i64 i.1)])
    (fun i => [some ⟨frm F, 109, true⟩, some ⟨ALL.map bv, 5, false⟩, some ⟨(F.h0.ws.take i.1).map wV, 47, false⟩]) (fun i => 8 - i.1) ⟨0, by omega⟩ retPost_le ?_ ?_
  · refine cut_trans (cut_ghost 9 1 47 (by simp) rfl rfl) (cut_w ?_)
    simp [hAl]
  rintro ⟨i, hi⟩
  simp only
  simp
  refine WC_dec (fun h => ?_) (fun h => ?_)
  · have h8 : i < 8 := by omega
    simp
    refine WO_callP [] rfl rfl fStart_spec (by simp) (by simp) ?_
    have hS : ∃ x, shaS[i]? = some x := ⟨_, List.getElem?_eq_getElem (by rw [shaS_len]; exact h8)⟩
    obtain ⟨x, hx⟩ := hS
    have hk := hF.h0 i h8
    rw [List.getD_eq_getElem?_getD, hx, Option.getD_some] at hk
    have hcs := fConst3_spec F hm x
    rw [hk] at hcs
    simp [shaS_len, h8, hx, nV]
    refine WO_callP [] rfl rfl hcs (by simp) (by simp) ?_
    simp
    refine ⟨by omega, ⟨i + 1, by omega⟩, by simp; omega, ?_⟩
    refine cut_rw [0, 1, 3] (by simp) rfl (by simp [wrap64s (n := (i : Int) + 1) (by omega) (by omega)]) ?_
    rw [List.take_of_length_le (show ((F.h0.ws.map wV).take i).length ≤ i by simp; omega), ← wsm_take F.h0 h8]
    simp
  have : i = 8 := by omega
  subst this
  simp [wsm_all]
  refine WO_callP [] rfl rfl fWords_spec (by simp) (by simp) ?_
  simp
  obtain ⟨NB, hNB⟩ : ∃ NB, NB = ALL.length / (2 * m) := ⟨_, rfl⟩
  have hAN : ALL.length = 2 * m * NB := by
    have h1 := Nat.mod_add_div ALL.length (2 * m)
    rw [hAl2, hmod] at h1
    rw [hNB, hAl2]; omega
  refine W_loop (X := { n : Nat // n ≤ NB }) (fun n => [(2, .ptr 0 0), (5, .int .i64 sz), (6, .slice 1 1 0 ALL.length none), (9, .slice 1 2 0 8 none), (11, .list 1 ⟨false, false, false⟩ (shaW.map (nV .u64))), (12, .int .i64 (2 * m * n.1 : Nat))])
    (fun n => [some ⟨frm F, 109, true⟩, some ⟨ALL.map bv, 5, false⟩, some ⟨(runB F n.1 F.h0 ALL).ws.map wV, 47, false⟩]) (fun n => NB - n.1) ⟨0, by omega⟩ retPost_le ?_ ?_
  · exact cut_w (by simp [hAl, runB])
  rintro ⟨n, hn⟩
  obtain ⟨at0, hat0⟩ : ∃ a, a = 2 * m * n := ⟨_, rfl⟩
  simp only
  rw [← hat0]
  simp
  refine WC_dec (fun h => ?_) (fun h => ?_)
  · have hnN : n < NB := by
      refine Nat.lt_of_mul_lt_mul_left (a := 2 * m) ?_
      rw [← hat0, ← hAN]; omega
    have hfit : at0 + 2 * m ≤ ALL.length := by
      rw [hat0, hAN, ← Nat.mul_succ]; exact Nat.mul_le_mul_left _ hnN
    simp
    obtain ⟨bk, hbk⟩ : ∃ bk, bk = (ALL.drop at0).take (2 * m) := ⟨_, rfl⟩
    have hbkl : bk.length = 2 * m := by rw [hbk]; simp; omega
    have hR := hF.R
    refine W_loop (X := { i : Nat // i ≤ F.R }) (fun i => [(2, .ptr 0 0), (5, .int .i64 sz), (6, .slice 1 1 0 ALL.length none), (9, .slice 1 2 0 8 none), (11, .list 1 ⟨false, false, false⟩ (shaW.map (nV .u64))), (12, .int .i64 at0), (13, .slice 1 3 0 i.1 none), (14, .int .i64 i.1)])
      (fun i => [some ⟨frm F, 109, true⟩, some ⟨ALL.map bv, 5, false⟩, some ⟨(runB F n F.h0 ALL).ws.map wV, 47, false⟩, some ⟨(wL F bk i.1).map wV, 47, false⟩]) (fun i => F.R - i.1) ⟨0, by omega⟩ retPost_le ?_ ?_
    · refine cut_trans (cut_ghost 13 1 47 (by simp) rfl rfl) (cut_w ?_)
      simp [wL]
    rintro ⟨i, hi⟩
    have hwl := wL_length F bk i
    simp only
    simp [frm_R]
    refine WC_dec (fun g => ?_) (fun g => ?_)
    · have hiR : i < F.R := by omega
      simp
      have hwn : ∀ (x : BitVec m), wL F bk (i + 1) = wL F bk i ++ [x] → (wL F bk (i + 1)).map wV = (wL F bk i).map wV ++ [.int .u64 (wn x : Nat)] := by
        intro x hx; rw [hx]; simp [wV]
      have hwx : wL F bk (i + 1) = wL F bk i ++ [nextW F bk (wL F bk i) i] := rfl
      have hm64 : m ≤ 64 := by omega
      have hmd : 2 ^ m ∣ 2 ^ 64 := Nat.pow_dvd_pow 2 hm64
      have hp64 : 2 ^ m ≤ 2 ^ 64 := Nat.pow_le_pow_right (by decide) hm64
      obtain ⟨x16, a16⟩ : ∃ x, x = (wL F bk i).getD (i - 16) 0 := ⟨_, rfl⟩
      obtain ⟨x15, a15⟩ : ∃ x, x = (wL F bk i).getD (i - 15) 0 := ⟨_, rfl⟩
      obtain ⟨x7, a7⟩ : ∃ x, x = (wL F bk i).getD (i - 7) 0 := ⟨_, rfl⟩
      obtain ⟨x2, a2⟩ : ∃ x, x = (wL F bk i).getD (i - 2) 0 := ⟨_, rfl⟩
      obtain ⟨X, hX⟩ : ∃ X, X = if i < 16 then beN ((bk.drop (sz * i)).take sz) else (((wn x16 + wn (smallT F.s0 x15)) % 2 ^ 64 + wn x7) % 2 ^ 64 + wn (smallT F.s1 x2)) % 2 ^ 64 := ⟨_, rfl⟩
      have hXb : ∀ k, beN ((bk.drop (sz * i)).take k) < 256 ^ k := fun k => Nat.lt_of_lt_of_le (beN_lt _) (Nat.pow_le_pow_right (by decide) (by simp; omega))
      have h256 : 256 ^ sz = 2 ^ m := by rcases hms with ⟨h1, h2⟩ | ⟨h1, h2⟩ <;> rw [h1, h2]
      have hXl : X < 2 ^ 64 := by
        rw [hX]; split
        · have := hXb sz; omega
        · exact Nat.mod_lt _ (by decide)
      have hXm : X % 2 ^ m = wn (nextW F bk (wL F bk i) i) := by
        rw [hX]; simp only [nextW, ← a16, ← a15, ← a7, ← a2, ← hsz]
        split
        · simp only [wn, BitVec.toNat_ofNat]
        · rw [wn_add, wn_add, wn_add, Nat.mod_mod_of_dvd _ hmd, Nat.add_mod, Nat.mod_mod_of_dvd _ hmd, Nat.add_mod ((wn x16 + wn (smallT F.s0 x15)) % 2 ^ 64), Nat.mod_mod_of_dvd _ hmd]
          simp only [Nat.add_mod, Nat.mod_mod]
      refine WC_joinQ [(2, .ptr 0 0), (5, .int .i64 sz), (6, .slice 1 1 0 ALL.length none), (9, .slice 1 2 0 8 none), (11, .list 1 ⟨false, false, false⟩ (shaW.map (nV .u64))), (12, .int .i64 at0), (13, .slice 1 3 0 i none), (14, .int .i64 i), (15, .int .u64 (X : Nat))]
        [some ⟨frm F, 109, true⟩, some ⟨ALL.map bv, 5, false⟩, some ⟨(runB F n F.h0 ALL).ws.map wV, 47, false⟩, some ⟨(wL F bk i).map wV, 47, false⟩] ?_ ?_
      · have hcut := fCut3_spec F hm X hXl
        rw [hXm] at hcut
        simp
        refine WO_callP [] rfl rfl hcut (by simp) (by simp) ?_
        simp [hwl]
        refine ⟨by omega, ⟨i + 1, by omega⟩, by simp; omega, ?_⟩
        refine cut_rw [0, 1, 2, 4] (by simp) rfl (by simp [wrap64s (n := (i : Int) + 1) (by omega) (by omega)]) ?_
        rw [List.take_of_length_le (show ((wL F bk i).map wV).length ≤ i by simp [hwl]), ← hwn _ hwx]
        simp
      intro k' hk'
      refine WC_dec (fun h16 => ?_) (fun h16 => ?_)
      · have h16' : i < 16 := by omega
        rw [if_pos h16'] at hX
        simp
        refine W_loop (X := { k : Nat // k ≤ sz }) (fun k => [(2, .ptr 0 0), (5, .int .i64 sz), (6, .slice 1 1 0 ALL.length none), (9, .slice 1 2 0 8 none), (11, .list 1 ⟨false, false, false⟩ (shaW.map (nV .u64))), (12, .int .i64 at0), (13, .slice 1 3 0 i none), (14, .int .i64 i), (15, .int .u64 (beN ((bk.drop (sz * i)).take k.1) : Nat)), (16, .int .i64 k.1)])
          (fun _ => [some ⟨frm F, 109, true⟩, some ⟨ALL.map bv, 5, false⟩, some ⟨(runB F n F.h0 ALL).ws.map wV, 47, false⟩, some ⟨(wL F bk i).map wV, 47, false⟩]) (fun k => sz - k.1) ⟨0, by omega⟩ retPost_le ?_ ?_
        · exact cut_w (by simp [beN])
        rintro ⟨k, hk⟩
        simp only
        simp
        refine WC_dec (fun u => ?_) (fun u => ?_)
        · obtain ⟨p, hp⟩ : ∃ p, p = i * sz := ⟨_, rfl⟩
          have hp2 : p ≤ 15 * sz := by rw [hp]; exact Nat.mul_le_mul_right _ (by omega)
          obtain ⟨q, hq⟩ : ∃ q, q = at0 + p + k := ⟨_, rfl⟩
          have e1 : IntKind.i64.wrap ((i : Int) * (sz : Int)) = (p : Int) := by
            rw [← Int.natCast_mul, ← hp, wrap64s (by omega) (by omega)]
          have e2 : IntKind.i64.wrap ((at0 : Int) + (p : Int)) = ((at0 + p : Nat) : Int) := by rw [wrap64s (by omega) (by omega)]; omega
          have e3 : IntKind.i64.wrap (((at0 + p : Nat) : Int) + (k : Int)) = (q : Int) := by rw [wrap64s (by omega) (by omega)]; omega
          obtain ⟨ap, hap⟩ : ∃ ap, ap = at0 + p := ⟨_, rfl⟩
          rw [← hap] at e2 e3
          have hqA : q < ALL.length := by omega
          have gq : ALL[q]? = some ALL[q] := by simp
          have hs : beN ((bk.drop (sz * i)).take (k + 1)) = beN ((bk.drop (sz * i)).take k) * 256 + ALL[q].toNat := by
            have hpi : sz * i = p := by rw [hp, Nat.mul_comm]
            rw [List.take_succ_eq_append_getElem (by simp; omega), beN_snoc, List.getElem_drop]
            congr 2
            simp only [hbk, List.getElem_take, List.getElem_drop]
            congr 1
            omega
          have hx := ALL[q].toNat_lt
          have hv := hXb k
          have hv2 : 256 ^ (k + 1) ≤ 2 ^ 64 := by rw [← Nat.pow_mul 2 8 (k + 1)]; exact Nat.pow_le_pow_right (by decide) (by omega)
          rw [Nat.pow_succ] at hv2
          have ev : IntKind.u64.wrap (IntKind.u64.wrap ((beN ((bk.drop (sz * i)).take k) : Nat) * 256) + (ALL[q].toNat : Nat)) = (beN ((bk.drop (sz * i)).take (k + 1)) : Nat) := by
            rw [hs]
            generalize beN ((bk.drop (sz * i)).take k) = y at *
            rw [show ((y : Int) * 256) = ((y * 256 : Nat) : Int) by simp, wrapu64, Nat.mod_eq_of_lt (by omega), ← Int.natCast_add, wrapu64, Nat.mod_eq_of_lt (by omega)]
          simp [e1, e2, e3, gq, ev, wrap_b64]
          refine ⟨hqA, ⟨k + 1, by omega⟩, by simp; omega, ?_⟩
          exact cut_w (by simp [wrap64s (n := (k : Int) + 1) (by omega) (by omega)])
        · have : k = sz := by omega
          subst this
          simp
          rw [hX] at hk'
          exact hk'
      · have h16' : ¬ i < 16 := by omega
        rw [if_neg h16'] at hX
        obtain ⟨j16, h16e⟩ : ∃ j, j = i - 16 := ⟨_, rfl⟩
        obtain ⟨j15, h15e⟩ : ∃ j, j = i - 15 := ⟨_, rfl⟩
        obtain ⟨j7, h7e⟩ : ∃ j, j = i - 7 := ⟨_, rfl⟩
        obtain ⟨j2, h2e⟩ : ∃ j, j = i - 2 := ⟨_, rfl⟩
        have f16 : IntKind.i64.wrap ((i : Int) - 16) = (j16 : Int) := by rw [wrap64s (by omega) (by omega)]; omega
        have f15 : IntKind.i64.wrap ((i : Int) - 15) = (j15 : Int) := by rw [wrap64s (by omega) (by omega)]; omega
        have f7 : IntKind.i64.wrap ((i : Int) - 7) = (j7 : Int) := by rw [wrap64s (by omega) (by omega)]; omega
        have f2 : IntKind.i64.wrap ((i : Int) - 2) = (j2 : Int) := by rw [wrap64s (by omega) (by omega)]; omega
        have get : ∀ (j : Nat) (x : BitVec m), j < i → x = (wL F bk i).getD j 0 → (wL F bk i)[j]? = some x := by
          intro j x hj hx
          rw [hx, List.getD_eq_getElem?_getD, List.getElem?_eq_getElem (by omega)]; rfl
        have b16 := get j16 x16 (by omega) (by rw [h16e]; exact a16)
        have b15 := get j15 x15 (by omega) (by rw [h15e]; exact a15)
        have b7 := get j7 x7 (by omega) (by rw [h7e]; exact a7)
        have b2 := get j2 x2 (by omega) (by rw [h2e]; exact a2)
        have sm0 := fSmall3_spec F hm x15 F.s0 hF.s0.1 hF.s0.2.1 hF.s0.2.2
        have sm1 := fSmall3_spec F hm x2 F.s1 hF.s1.1 hF.s1.2.1 hF.s1.2.2
        have au : ∀ a c : Nat, IntKind.u64.wrap ((a : Nat) + (c : Nat)) = ((a + c) % 2 ^ 64 : Nat) := fun a c => by rw [← Int.natCast_add, wrapu64]
        have s1 := au (wn x16) (wn (smallT F.s0 x15))
        obtain ⟨y1, hy1⟩ : ∃ y, y = (wn x16 + wn (smallT F.s0 x15)) % 2 ^ 64 := ⟨_, rfl⟩
        rw [← hy1] at s1 hX
        have s2 := au y1 (wn x7)
        obtain ⟨y2, hy2⟩ : ∃ y, y = (y1 + wn x7) % 2 ^ 64 := ⟨_, rfl⟩
        rw [← hy2] at s2 hX
        have s3 := au y2 (wn (smallT F.s1 x2))
        rw [← hX] at s3
        simp [f16, f15, f7, f2, b16, b15, b7, b2, hwl, wV, frm_s0, frm_s1]
        refine ⟨by omega, by omega, by omega, by omega, ?_⟩
        refine WO_callP [] rfl rfl sm0 (by simp [tV]) (by simp [b16, b7, b2, wV, frm_s1]) ?_
        simp [s1, s2]
        refine WO_callP [] rfl rfl sm1 (by simp [tV]) (by simp [b16, b7, b2, wV, frm_s1]) ?_
        simp [s3]
        exact hk'
    have hiR : i = F.R := by omega
    subst hiR
    obtain ⟨hs, hhs⟩ : ∃ hs, hs = runB F n F.h0 ALL := ⟨_, rfl⟩
    have hcomp : runB F (n + 1) F.h0 ALL = hs.add (rnds F (wL F bk F.R) hs F.R) := by rw [runB_succ, ← hat0, ← hbk, ← hhs]; rfl
    rw [← hhs]
    simp [wsm_all]
    refine W_loop (X := { i : Nat // i ≤ F.R }) (fun i => [(2, .ptr 0 0), (5, .int .i64 sz), (6, .slice 1 1 0 ALL.length none), (9, .slice 1 2 0 8 none), (11, .list 1 ⟨false, false, false⟩ (shaW.map (nV .u64))), (12, .int .i64 at0), (13, .slice 1 3 0 F.R none), (17, .list 1 ⟨false, false, false⟩ ((rnds F (wL F bk F.R) hs i.1).ws.map wV)), (18, .int .i64 i.1)])
      (fun i => [some ⟨frm F, 109, true⟩, some ⟨ALL.map bv, 5, false⟩, some ⟨hs.ws.map wV, 47, false⟩, some ⟨(wL F bk F.R).map wV, 47, false⟩]) (fun i => F.R - i.1) ⟨0, by omega⟩ retPost_le ?_ ?_
    · refine cut_trans (cut_frz 4 rfl) (cut_w ?_)
      simp [rnds, wsm_all]
    rintro ⟨i, hi⟩
    simp only
    simp [frm_R]
    refine WC_dec (fun g => ?_) (fun g => ?_)
    · have hiR : i < F.R := by omega
      have hm64 : m ≤ 64 := by omega
      obtain ⟨W, hW⟩ : ∃ W, W = wL F bk F.R := ⟨_, rfl⟩
      rw [← hW] at hwl hcomp ⊢
      obtain ⟨w, hw'⟩ : ∃ w, w = W.getD i 0 := ⟨_, rfl⟩
      have gw : W[i]? = some w := by rw [hw', List.getD_eq_getElem?_getD, List.getElem?_eq_getElem (by omega)]; rfl
      have hk80 : ∃ x, shaW[i]? = some x := ⟨_, List.getElem?_eq_getElem (by rw [shaW_len]; omega)⟩
      obtain ⟨kv, hkv⟩ := hk80
      have hkc := hF.k i hiR
      rw [List.getD_eq_getElem?_getD, hkv, Option.getD_some] at hkc
      have hcs := fConst3_spec F hm kv
      rw [hkc] at hcs
      obtain ⟨kk, hkk⟩ : ∃ kk, kk = F.k i := ⟨_, rfl⟩
      have hr : rnds F W hs (i + 1) = rnd F (F.k i) (W.getD i 0) (rnds F W hs i) := rfl
      rw [← hkk] at hcs hr
      rw [← hw'] at hr
      obtain ⟨⟨sa, sb, sc, sd, se, sf, sg, sh⟩, hS⟩ : ∃ st, st = rnds F W hs i := ⟨_, rfl⟩
      rw [← hS] at hr ⊢
      have andm : ∀ x y : BitVec m, bitI .and .u64 (wn x : Nat) (wn y : Nat) = (wn (x &&& y) : Nat) := fun x y => wx_and rfl hm64 x y
      have orm : ∀ x y : BitVec m, bitI .or .u64 (wn x : Nat) (wn y : Nat) = (wn (x ||| y) : Nat) := fun x y => wx_or rfl hm64 x y
      have au : ∀ a c : Nat, IntKind.u64.wrap ((a : Nat) + (c : Nat)) = ((a + c) % 2 ^ 64 : Nat) := fun a c => by rw [← Int.natCast_add, wrapu64]
      have hnr := not_raw se hm64
      obtain ⟨nse, hnse⟩ : ∃ v, v = (2 ^ 64 - 1) ^^^ wn se := ⟨_, rfl⟩
      have hcn := fCut3_spec F hm nse (by rw [hnse]; exact Nat.xor_lt_two_pow (by decide) (Nat.lt_of_lt_of_le (wn_lt se) (Nat.pow_le_pow_right (by decide) hm64)))
      rw [hnse, not_val hm64] at hcn
      rw [← hnse] at hcn hnr
      simp [St8.ws, wV, andm, hnr]
      refine WO_callP [] rfl rfl hcn (by simp) (by simp) ?_
      simp [andm, orm, ch_or, mj_or, frm_E, hkv, gw, nV, wV]
      obtain ⟨cE, hcE⟩ : ∃ x, x = bigT F.E se := ⟨_, rfl⟩
      obtain ⟨cA, hcA⟩ : ∃ x, x = bigT F.A sa := ⟨_, rfl⟩
      obtain ⟨ch, hch⟩ : ∃ x, x = (se &&& sf) ^^^ (~~~se &&& sg) := ⟨_, rfl⟩
      obtain ⟨mj, hmj⟩ : ∃ x, x = (sa &&& sb) ^^^ (sa &&& sc) ^^^ (sb &&& sc) := ⟨_, rfl⟩
      have hr2 : rnds F W hs (i + 1) = ⟨sh + cE + ch + kk + w + cA + mj, sa, sb, sc, sd + (sh + cE + ch + kk + w), se, sf, sg⟩ := by rw [hr, hcE, hcA, hch, hmj]; rfl
      have bE := fBig3_spec F hm se F.E hF.E.1 hF.E.2.1 hF.E.2.2
      have bA := fBig3_spec F hm sa F.A hF.A.1 hF.A.2.1 hF.A.2.2
      rw [← hcE] at bE
      rw [← hcA] at bA
      rw [← hch, ← hmj]
      have s1 := au (wn sh) (wn cE)
      obtain ⟨y1, hy1⟩ : ∃ y, y = (wn sh + wn cE) % 2 ^ 64 := ⟨_, rfl⟩
      rw [← hy1] at s1
      have s2 := au y1 (wn ch)
      obtain ⟨y2, hy2⟩ : ∃ y, y = (y1 + wn ch) % 2 ^ 64 := ⟨_, rfl⟩
      rw [← hy2] at s2
      have s3 := au y2 (wn kk)
      obtain ⟨y3, hy3⟩ : ∃ y, y = (y2 + wn kk) % 2 ^ 64 := ⟨_, rfl⟩
      rw [← hy3] at s3
      have s4 := au y3 (wn w)
      obtain ⟨y4, hy4⟩ : ∃ y, y = (y3 + wn w) % 2 ^ 64 := ⟨_, rfl⟩
      rw [← hy4] at s4
      have s5 := au (wn cA) (wn mj)
      obtain ⟨y5, hy5⟩ : ∃ y, y = (wn cA + wn mj) % 2 ^ 64 := ⟨_, rfl⟩
      rw [← hy5] at s5
      have s6 := au y4 y5
      obtain ⟨y6, hy6⟩ : ∃ y, y = (y4 + y5) % 2 ^ 64 := ⟨_, rfl⟩
      rw [← hy6] at s6
      have s7 := au (wn sd) y4
      obtain ⟨y7, hy7⟩ : ∃ y, y = (wn sd + y4) % 2 ^ 64 := ⟨_, rfl⟩
      rw [← hy7] at s7
      have c6 := fCut3_spec F hm y6 (by rw [hy6]; exact Nat.mod_lt _ (by decide))
      have c7 := fCut3_spec F hm y7 (by rw [hy7]; exact Nat.mod_lt _ (by decide))
      have v6 : y6 % 2 ^ m = wn (sh + cE + ch + kk + w + cA + mj) := by
        rw [hy6, hy5, hy4, hy3, hy2, hy1, sum_cut hm, wn_add, wn_add, wn_add, wn_add, wn_add, wn_add]
      have v7 : y7 % 2 ^ m = wn (sd + (sh + cE + ch + kk + w)) := by
        rw [hy7, hy4, hy3, hy2, hy1, sum_cut2 hm, wn_add, wn_add, wn_add, wn_add, wn_add]
      rw [v6] at c6
      rw [v7] at c7
      refine ⟨by rw [shaW_len]; omega, by omega, by omega, ?_⟩
      refine WO_callP [] rfl rfl bE (by simp [tV]) (by simp [hkv, gw, nV, wV]) ?_
      simp [s1, s2]
      refine WO_callP [] rfl rfl hcs (by simp) (by simp [hkv, gw, nV, wV]) ?_
      simp [s3, s4, frm_A]
      refine WO_callP [] rfl rfl bA (by simp [tV]) (by simp) ?_
      simp [s5, s6]
      refine WO_callP [] rfl rfl c6 (by simp) (by simp) ?_
      simp [s7]
      refine WO_callP [] rfl rfl c7 (by simp) (by simp) ?_
      simp
      refine ⟨⟨i + 1, by omega⟩, by simp; omega, ?_⟩
      exact cut_w (by simp [hr2, St8.ws, wV, wrap64s (n := (i : Int) + 1) (by omega) (by omega)])
    have hiR : i = F.R := by omega
    subst hiR
    obtain ⟨st, hst⟩ : ∃ st, st = rnds F (wL F bk F.R) hs F.R := ⟨_, rfl⟩
    rw [← hst] at hcomp ⊢
    simp
    refine W_loop (X := { i : Nat // i ≤ 8 }) (fun i => [(2, .ptr 0 0), (5, .int .i64 sz), (6, .slice 1 1 0 ALL.length none), (9, .slice 1 2 0 8 none), (11, .list 1 ⟨false, false, false⟩ (shaW.map (nV .u64))), (12, .int .i64 at0), (17, .list 1 ⟨false, false, false⟩ (st.ws.map wV)), (23, .int .i64 i.1)])
      (fun i => [some ⟨frm F, 109, true⟩, some ⟨ALL.map bv, 5, false⟩, some ⟨(hX i.1 hs st).map wV, 47, false⟩]) (fun i => 8 - i.1) ⟨0, by omega⟩ retPost_le ?_ ?_
    · exact cut_w (by simp [hX_zero])
    rintro ⟨i, hi⟩
    simp only
    simp
    refine WC_dec (fun g => ?_) (fun g => ?_)
    · have h8 : i < 8 := by omega
      have g1 := hX_at hs st h8
      have g2 := ws_at st h8
      have g3 := hX_set hs st h8
      have au : IntKind.u64.wrap ((wn (hs.at i) : Nat) + (wn (st.at i) : Nat)) = ((wn (hs.at i) + wn (st.at i)) % 2 ^ 64 : Nat) := by rw [← Int.natCast_add, wrapu64]
      obtain ⟨y, hy⟩ : ∃ y, y = (wn (hs.at i) + wn (st.at i)) % 2 ^ 64 := ⟨_, rfl⟩
      rw [← hy] at au
      have hc := fCut3_spec F hm y (by rw [hy]; exact Nat.mod_lt _ (by decide))
      rw [hy, sum_cut3 hm, ← wn_add] at hc
      rw [← hy] at hc
      obtain ⟨u, hu⟩ : ∃ u, u = wn (hs.at i + st.at i) := ⟨_, rfl⟩
      rw [← hu] at hc g3
      obtain ⟨p1, hp1⟩ : ∃ p1, p1 = hs.at i := ⟨_, rfl⟩
      obtain ⟨p2, hp2⟩ : ∃ p2, p2 = st.at i := ⟨_, rfl⟩
      rw [← hp1] at g1 au
      rw [← hp2] at g2 au
      have g1' : ∀ (h : i < (hX i hs st).length), (hX i hs st)[i] = p1 := fun h => by rw [List.getElem?_eq_getElem h] at g1; exact Option.some.inj g1
      have g2' : ∀ (h : i < st.ws.length), st.ws[i] = p2 := fun h => by rw [List.getElem?_eq_getElem h] at g2; exact Option.some.inj g2
      simp [g1', g2', wV, au, h8, g]
      refine WO_callP [] rfl rfl hc (by simp) (by simp) ?_
      simp [g3, h8, g]
      refine ⟨by omega, ⟨i + 1, by omega⟩, by simp; omega, ?_⟩
      exact cut_w (by simp [wrap64s (n := (i : Int) + 1) (by omega) (by omega)])
    have hi8 : i = 8 := by omega
    subst hi8
    have eAt : IntKind.i64.wrap ((at0 : Int) + IntKind.i64.wrap (16 * (sz : Int))) = ((2 * m * (n + 1) : Nat) : Int) := by
      rw [e1, Nat.mul_succ, ← hat0, wrap64s (by omega) (by omega)]; omega
    simp [hX_eight]
    refine ⟨⟨n + 1, by omega⟩, by simp; omega, ?_⟩
    simp at eAt
    exact cut_w (by simp [hcomp, eAt])
  have hnN : n = NB := by
    have h1 : ALL.length ≤ at0 := by omega
    rw [hAN, hat0] at h1
    have h2 := Nat.le_of_mul_le_mul_left h1 (by omega)
    omega
  subst hnN
  have hdg : dgst F b = dgB (runB F n F.h0 ALL) := by
    rw [dgst, hst, ← hAt, ← hNB]
  obtain ⟨S, hS⟩ : ∃ S, S = runB F n F.h0 ALL := ⟨_, rfl⟩
  rw [← hS] at hdg ⊢
  rw [hdg]
  simp
  refine W_loop (X := { i : Nat // i ≤ 8 }) (fun i => [(5, .int .i64 sz), (9, .slice 1 0 0 8 none), (24, .slice 1 1 0 (sz * i.1) none), (25, .int .i64 i.1)])
    (fun i => [some ⟨S.ws.map wV, 47, false⟩, some ⟨((dgB S).take (sz * i.1)).map bv, 5, false⟩]) (fun i => 8 - i.1) ⟨0, by omega⟩ retPost_le ?_ ?_
  · refine cut_trans (cut_ghost 24 1 5 (by simp) rfl rfl) ?_
    refine cut_rw [2, 3] (by simp) rfl (by simp) ?_
    simp
  rintro ⟨i, hi⟩
  simp only
  simp
  refine WC_dec (fun g => ?_) (fun g => ?_)
  · have h8 : i < 8 := by omega
    simp
    refine W_loop (X := { k : Nat // k ≤ sz }) (fun k => [(5, .int .i64 sz), (9, .slice 1 0 0 8 none), (24, .slice 1 1 0 (sz * i + k.1) none), (25, .int .i64 i), (26, .int .i64 ((sz : Int) - 1 - (k.1 : Int)))])
      (fun k => [some ⟨S.ws.map wV, 47, false⟩, some ⟨((dgB S).take (sz * i + k.1)).map bv, 5, false⟩]) (fun k => sz - k.1) ⟨0, by omega⟩ retPost_le ?_ ?_
    · exact cut_w (by simp [wrap64s (n := (sz : Int) - 1) (by omega) (by omega)])
    rintro ⟨k, hk⟩
    simp only
    simp
    refine WC_dec (fun u => ?_) (fun u => ?_)
    · have hks : k < sz := by omega
      obtain ⟨nn, hnn⟩ : ∃ nn, nn = sz - 1 - k := ⟨_, rfl⟩
      have f1 : (sz : Int) - 1 - (k : Int) = (nn : Int) := by omega
      obtain ⟨n8, hn8⟩ : ∃ n8, n8 = 8 * nn := ⟨_, rfl⟩
      have f2 : IntKind.i64.wrap (8 * (nn : Int)) = (n8 : Int) := by rw [wrap64s (by omega) (by omega)]; omega
      obtain ⟨p, hp⟩ : ∃ p, p = sz * i + k := ⟨_, rfl⟩
      have hpd : p / sz = i := by rw [hp, Nat.mul_add_div (by omega), Nat.div_eq_of_lt hks, Nat.add_zero]
      have hpm : p % sz = k := by rw [hp, Nat.mul_add_mod, Nat.mod_eq_of_lt hks]
      have hpl : p < m := by
        have : sz * i ≤ sz * 7 := Nat.mul_le_mul_left _ (by omega)
        omega
      have f3 : IntKind.u8.wrap (((wn (S.at i) : Nat) : Int).fdiv (2 ^ min n8 64)) = ((UInt8.ofNat (dgN S p)).toNat : Int) := by
        rw [show min n8 64 = n8 by omega, shr_nat, wrap8_u8]
        simp only [dgN, ← hsz, hpd, hpm, show m - 8 - 8 * k = n8 by omega]
        rw [UInt8.toNat_ofNat', UInt8.toNat_ofNat', Nat.mod_mod]
      have ht := dgB_take S hpl
      have g2 := ws_at S h8
      obtain ⟨p2, hp2⟩ : ∃ p2, p2 = S.at i := ⟨_, rfl⟩
      rw [← hp2] at g2 f3
      have g2' : ∀ (h : i < S.ws.length), S.ws[i] = p2 := fun h => by rw [List.getElem?_eq_getElem h] at g2; exact Option.some.inj g2
      have hdl : (dgB S).length = m := by simp [dgB]
      rw [← hp]
      simp [f1, f2, g2', wV, h8, f3, IntKind.bits]
      have htm := congrArg (List.map bv) ht
      simp at htm
      have f4 : IntKind.i64.wrap ((nn : Int) - 1) = (sz : Int) - 1 - ((k : Int) + 1) := by rw [wrap64s (by omega) (by omega)]; omega
      refine ⟨g, by rw [hdl]; omega, ⟨k + 1, by omega⟩, by simp; omega, ?_⟩
      refine cut_rw [0, 2] (by simp) rfl (by simp [f4, hp, Nat.add_assoc]) ?_
      rw [List.take_take, Nat.min_self, ← htm]
      simp [hp, Nat.add_assoc]
    · have : k = sz := by omega
      subst this
      simp
      refine ⟨⟨i + 1, by omega⟩, by simp; omega, ?_⟩
      exact cut_w (by simp [Nat.mul_succ, wrap64s (n := (i : Int) + 1) (by omega) (by omega)])
  have hi8 : i = 8 := by omega
  subst hi8
  have hdl : (dgB S).length = m := by simp [dgB]
  simp
  rw [List.take_of_length_le (by simp [hdl]; omega)]
  exact fin_sl 1 rfl (by simp [hdl]; omega) (by simp) (by simp)
end Go.Proofs.Ythgibibeoapfbaa
namespace Go.Proofs.Ythgibibeoapfbaa
open Go Go.Fw
attribute [local irreducible] W WX WR WO WS WSr WH WHA WG WC FSpec
attribute [local simp] WS_at_map WSr_at_map WS_at_q4 WSr_at_q4 WS_at_mx mx_set' WS_at_arr WSr_at_arr loadWP splice_full Int.natCast_inj
theorem fL_spec : FSpec Try.prog 49 [] [] (.agg (q4 Lq)) [] := by
  refine FSpec.of_W fL_low (by simp) ?_
  simp only [initEnv]
  simp
  exact fin_W (by simp [q4_Lq])
theorem fBelow2_spec (a b : Nat) (ha : a < 2 ^ 256) (hb : b < 2 ^ 256) : FSpec Try.prog 124 [.agg (q4 a), .agg (q4 b)] [] (.bool (decide (a < b))) [] := by
  refine FSpec.of_W fBelow2_low (by simp) ?_
  simp only [initEnv]
  simp
  refine W_loop (X := { i : Nat // i ≤ 4 ∧ a / 2 ^ (64 * i) = b / 2 ^ (64 * i) }) (fun i => [(2, .ptr 0 0), (3, .ptr 1 0), (5, .int .i64 ((i.1 : Int) - 1))]) (fun _ => [some ⟨q4 a, 48, true⟩, some ⟨q4 b, 48, true⟩]) (fun i => i.1) ⟨4, by omega, by omega⟩ retPost_le ?_ ?_
  · exact cut_w (by simp)
  · rintro ⟨i, hi, he⟩
    obtain _ | k := i
    · simp
      refine fin_W ?_
      simp at he
      simp [he]
    · have h4 : k < 4 := by omega
      simp [h4]
      refine ⟨by omega, ?_⟩
      refine WC_ndec (fun h => ?_) (fun h => ?_)
      · simp [h4]
        refine ⟨by omega, ?_⟩
        refine fin_W ?_
        simp
        rw [wd_cmp he (by omega)]
      · simp
        refine ⟨⟨k, by omega, wd_eq he (by omega)⟩, by simp, ?_⟩
        exact cut_w (by simp [wrap64s (n := (k : Int) - 1) (by omega) (by omega)])
theorem fBelow_spec (a : Nat) (ha : a < 2 ^ 256) : FSpec Try.prog 100 [.agg (q4 a)] [] (.bool (decide (a < Lq))) [] := by
  refine FSpec.of_W fBelow_low (by simp) ?_
  simp only [initEnv]
  simp
  refine WO_callP [] rfl rfl fL_spec (by simp) (by simp) ?_
  simp
  refine WO_callP [] rfl rfl (fBelow2_spec a Lq ha (by decide)) (by simp) (by simp) ?_
  simp
  exact fin_W (by simp)
theorem sub_wrap (a b i : Nat) (h : b ≤ a) : IntKind.u64.wrap (IntKind.u64.wrap ((wd a i : Int) - (wd b i : Int)) - (bor a b i : Int)) = (wd (a - b) i : Nat) := by
  rw [← wd_sub a b i h]
  have := wd_lt a i
  have := wd_lt b i
  have := bor_le a b i
  unfold IntKind.wrap
  simp [IntKind.signed, IntKind.bits]
  omega
theorem fRLess_spec (a b : Nat) (h : b ≤ a) : FSpec Try.prog 125 [.agg (q4 a), .agg (q4 b)] [] (.agg (q4 (a - b))) [] := by
  refine FSpec.of_W fRLess_low (by simp) ?_
  simp only [initEnv]
  simp
  refine W_loop (X := { i : Nat // i ≤ 4 }) (fun i => [(2, .ptr 0 0), (3, .ptr 1 0), (4, .ptr 2 0), (5, .int .u64 (bor a b i.1 : Nat)), (6, .int .i64 i.1)]) (fun i => [some ⟨mx i.1 (a - b) a, 48, true⟩, some ⟨q4 b, 48, true⟩, some ⟨q4 0, 48, true⟩]) (fun i => 4 - i.1) ⟨0, by omega⟩ retPost_le ?_ ?_
  · exact cut_w (by simp [bor_zero, mx_zero, q4_zero])
  · rintro ⟨i, hi⟩
    simp only
    simp
    refine WC_dec (fun hl => ?_) (fun hl => ?_)
    · have h4 : i < 4 := by omega
      have hb := bor_succ a b i
      have hle := bor_le a b i
      have hw := sub_wrap a b i h
      by_cases h1 : wd a i < wd b i
      · rw [if_pos (by omega)] at hb
        simp [h4, hl, h1, hw]
        refine ⟨by omega, ⟨i + 1, by omega⟩, by simp; omega, ?_⟩
        exact cut_w (by simp [← hb, wrap64s (n := (i : Int) + 1) (by omega) (by omega)])
      · by_cases h2 : wd a i = wd b i
        · by_cases h3 : bor a b i = 1
          · have h3' : ((bor a b i : Nat) : Int) = 1 := by omega
            rw [if_pos (by omega)] at hb
            rw [h2] at hw
            simp only [Int.sub_self, h3'] at hw
            simp [h4, hl, h1, h2, h3, h3', hw]
            refine ⟨by omega, ⟨i + 1, by omega⟩, by simp; omega, ?_⟩
            exact cut_w (by simp [← hb, wrap64s (n := (i : Int) + 1) (by omega) (by omega)])
          · have h3' : ¬ ((bor a b i : Nat) : Int) = 1 := by omega
            rw [if_neg (by omega)] at hb
            rw [h2] at hw
            simp only [Int.sub_self, h3'] at hw
            simp [h4, hl, h1, h2, h3, h3', hw]
            refine ⟨by omega, ⟨i + 1, by omega⟩, by simp; omega, ?_⟩
            exact cut_w (by simp [← hb, wrap64s (n := (i : Int) + 1) (by omega) (by omega)])
        · rw [if_neg (by omega)] at hb
          simp [h4, hl, h1, h2, hw]
          refine ⟨by omega, ⟨i + 1, by omega⟩, by simp; omega, ?_⟩
          exact cut_w (by simp [← hb, wrap64s (n := (i : Int) + 1) (by omega) (by omega)])
    · have h4 : i = 4 := by omega
      subst h4
      simp [mx_four]
      exact fin_W (by simp)
theorem dbl_wrap (n bit i : Nat) : IntKind.u64.wrap (IntKind.u64.wrap ((wd n i : Int) * 2) + (dca n bit i : Int)) = (wd (2 * n + bit) i : Nat) := by
  rw [wd_dbl]
  unfold IntKind.wrap
  simp [IntKind.signed, IntKind.bits]
theorem fDouble_spec (n : Nat) (bit : Nat) (hb : bit ≤ 1) (hn : 2 * n + bit < 2 ^ 256) : FSpec Try.prog 126 [.agg (q4 n), .int .i64 bit] [] (.agg (q4 (onceN (2 * n + bit)))) [] := by
  refine FSpec.of_W fDouble_low (by simp) ?_
  simp only [initEnv]
  simp
  refine W_loop (X := { i : Nat // i ≤ 4 }) (fun i => [(2, .ptr 0 0), (4, .ptr 1 0), (5, .int .u64 (dca n bit i.1 : Nat)), (6, .int .i64 i.1)]) (fun i => [some ⟨mx i.1 (2 * n + bit) n, 48, true⟩, some ⟨q4 0, 48, true⟩]) (fun i => 4 - i.1) ⟨0, by omega⟩ retPost_le ?_ ?_
  · have e : IntKind.u64.wrap (bit : Int) = bit := by rw [wrapu64]; omega
    exact cut_w (by simp [dca_zero, mx_zero, q4_zero, e])
  · rintro ⟨i, hi⟩
    simp only
    simp
    refine WC_dec (fun hl => ?_) (fun hl => ?_)
    · have h4 : i < 4 := by omega
      have e1 : (wd n i : Int).fdiv 9223372036854775808 = (dca n bit (i + 1) : Nat) := by
        rw [← dca_succ n bit i hb]; exact shr_nat (wd n i) 63
      simp [h4, hl, dbl_wrap, e1]
      refine ⟨by omega, ⟨i + 1, by omega⟩, by simp; omega, ?_⟩
      exact cut_w (by simp [IntKind.bits, e1, wrap64s (n := (i : Int) + 1) (by omega) (by omega)])
    · have h4 : i = 4 := by omega
      subst h4
      simp [mx_four]
      refine WO_callP [] rfl rfl fL_spec (by simp) (by simp) ?_
      simp
      refine WO_callP [] rfl rfl (fBelow2_spec _ Lq hn (by decide)) (by simp) (by simp) ?_
      simp
      refine WC_dec (fun h => ?_) (fun h => ?_)
      · simp
        exact fin_W (by simp [onceN, h])
      · simp
        refine WO_callP [] rfl rfl fL_spec (by simp) (by simp) ?_
        simp
        refine WO_callP [] rfl rfl (fRLess_spec _ Lq (by omega)) (by simp) (by simp) ?_
        simp
        exact fin_W (by simp [onceN, h])
theorem add_wrap1 (a b i : Nat) : IntKind.u64.wrap ((wd a i : Int) + (wd b i : Int)) = ((wd a i + wd b i) % 18446744073709551616 : Nat) := by
  unfold IntKind.wrap
  simp [IntKind.signed, IntKind.bits]
theorem fAddL_spec (a b : Nat) (hs : a + b < 2 ^ 256) : FSpec Try.prog 95 [.agg (q4 a), .agg (q4 b)] [] (.agg (q4 (onceN (a + b)))) [] := by
  refine FSpec.of_W fAddL_low (by simp) ?_
  simp only [initEnv]
  simp
  refine W_loop (X := { i : Nat // i ≤ 4 }) (fun i => [(2, .ptr 0 0), (3, .ptr 1 0), (4, .ptr 2 0), (5, .int .u64 (car a b i.1 : Nat)), (6, .int .i64 i.1)]) (fun i => [some ⟨mx i.1 (a + b) a, 48, true⟩, some ⟨q4 b, 48, true⟩, some ⟨q4 0, 48, true⟩]) (fun i => 4 - i.1) ⟨0, by omega⟩ retPost_le ?_ ?_
  · exact cut_w (by simp [car_zero, mx_zero, q4_zero])
  · rintro ⟨i, hi⟩
    simp only
    simp
    refine WC_dec (fun hl => ?_) (fun hl => ?_)
    · have h4 : i < 4 := by omega
      have hc := car_succ a b i
      have hle := car_le a b i
      have hw := wd_add a b i
      have l1 := wd_lt a i
      have l2 := wd_lt b i
      obtain ⟨x, hx⟩ : ∃ x, x = (wd a i + wd b i) % 18446744073709551616 := ⟨_, rfl⟩
      have e1 := add_wrap1 a b i
      rw [← hx] at e1
      have e2 : IntKind.u64.wrap ((x : Int) + (car a b i : Int)) = (wd (a + b) i : Nat) := by
        rw [hw]
        unfold IntKind.wrap
        simp [IntKind.signed, IntKind.bits]
        omega
      have c1 : x < wd a i ↔ 18446744073709551616 ≤ wd a i + wd b i := by omega
      have c2 : wd (a + b) i < x ↔ 18446744073709551616 ≤ x + car a b i := by omega
      simp [h4, hl, e1]
      refine WC_dec (fun g1 => ?_) (fun g1 => ?_)
      · simp [h4, hl, e2]
        have : ¬ wd (a + b) i < x := by omega
        simp [this, h4, hl]
        have hn : car a b (i + 1) = 1 := by omega
        refine ⟨by omega, ⟨i + 1, by omega⟩, by simp; omega, ?_⟩
        exact cut_w (by simp [hn, wrap64s (n := (i : Int) + 1) (by omega) (by omega)])
      · simp [h4, hl, e2]
        refine WC_dec (fun g2 => ?_) (fun g2 => ?_)
        · have hn : car a b (i + 1) = 1 := by omega
          simp [h4, hl]
          refine ⟨by omega, ⟨i + 1, by omega⟩, by simp; omega, ?_⟩
          exact cut_w (by simp [hn, wrap64s (n := (i : Int) + 1) (by omega) (by omega)])
        · have hn : car a b (i + 1) = 0 := by omega
          simp [h4, hl]
          refine ⟨by omega, ⟨i + 1, by omega⟩, by simp; omega, ?_⟩
          exact cut_w (by simp [hn, wrap64s (n := (i : Int) + 1) (by omega) (by omega)])
    · have h4 : i = 4 := by omega
      subst h4
      simp [mx_four]
      refine WO_callP [] rfl rfl fL_spec (by simp) (by simp) ?_
      simp
      refine WO_callP [] rfl rfl (fBelow2_spec _ Lq hs (by decide)) (by simp) (by simp) ?_
      simp
      refine WC_dec (fun h => ?_) (fun h => ?_)
      · simp
        exact fin_W (by simp [onceN, h])
      · simp
        refine WO_callP [] rfl rfl fL_spec (by simp) (by simp) ?_
        simp
        refine WO_callP [] rfl rfl (fRLess_spec _ Lq (by omega)) (by simp) (by simp) ?_
        simp
        exact fin_W (by simp [onceN, h])
theorem fAddL_mod (a b : Nat) (ha : a < Lq) (hb : b < Lq) : FSpec Try.prog 95 [.agg (q4 a), .agg (q4 b)] [] (.agg (q4 ((a + b) % Lq))) [] := by
  have h := Lq_lt
  have e := fAddL_spec a b (by omega)
  rw [onceN_mod (by omega)] at e
  exact e
theorem fDouble_mod (n bit : Nat) (hn : n < Lq) (hb : bit ≤ 1) : FSpec Try.prog 126 [.agg (q4 n), .int .i64 bit] [] (.agg (q4 ((2 * n + bit) % Lq))) [] := by
  have h := Lq_lt
  have e := fDouble_spec n bit hb (by omega)
  rw [onceN_mod (by omega)] at e
  exact e
theorem mul_step0 (M a b k : Nat) : (2 * (a * (b / 2 ^ (k + 1)) % M) + 0) % M = 2 * a * (b / 2 ^ (k + 1)) % M := by
  rw [Nat.two_mul]; exact mul_step M a b k
theorem fMulL_spec (a b : Nat) (ha : a < Lq) (hb : b < 2 ^ 256) : FSpec Try.prog 96 [.agg (q4 a), .agg (q4 b)] [] (.agg (q4 (a * b % Lq))) [] := by
  have hA := fAddL_mod
  have hD := fDouble_mod
  have hpos : 0 < Lq := by decide
  generalize Lq = M at *
  refine FSpec.of_W fMulL_low (by simp) ?_
  simp only [initEnv]
  simp
  refine W_loop (X := { k : Nat // k ≤ 256 }) (fun i => [(2, .ptr 0 0), (3, .ptr 1 0), (4, .ptr 2 0), (5, .ptr 3 0), (6, .int .i64 ((i.1 : Int) - 1))]) (fun i => [some ⟨q4 a, 48, true⟩, some ⟨q4 b, 48, true⟩, some ⟨q4 0, 48, true⟩, some ⟨q4 (a * (b / 2 ^ i.1) % M), 48, true⟩]) (fun i => i.1) ⟨256, by omega⟩ retPost_le ?_ ?_
  · have e : b / 2 ^ 256 = 0 := Nat.div_eq_of_lt hb
    exact cut_w (by simp [e, q4_zero])
  · rintro ⟨i, hi⟩
    obtain _ | k := i
    · simp
      exact fin_W (by simp)
    · simp
      have hm := Nat.mod_lt (a * (b / 2 ^ (k + 1))) hpos
      have hD1 := hD _ 0 hm (by omega)
      rw [mul_step0] at hD1
      refine WO_callP [] rfl rfl hD1 (by simp) (by simp) ?_
      obtain ⟨q, hq⟩ : ∃ q, q = k / 64 := ⟨_, rfl⟩
      obtain ⟨r, hr⟩ : ∃ r, r = k % 64 := ⟨_, rfl⟩
      have e1 : (k : Int).tdiv 64 = (q : Int) := by rw [hq]; rfl
      have e2 : (k : Int).tmod 64 = (r : Int) := by rw [hr]; rfl
      have e5 : ((wd b q : Nat) : Int).fdiv (2 ^ min r 64) = ((wd b q / 2 ^ r : Nat) : Int) := by rw [show min r 64 = r by omega]; exact shr_nat _ _
      have e6 : (q : Int) < 4 := by omega
      have e7 : q < 4 := by omega
      have e3 := wd_bit' b k
      rw [← hq, ← hr] at e3
      generalize wd b q / 2 ^ r = z at *
      have e8 : (z : Int).tmod 2 = ((b / 2 ^ k % 2 : Nat) : Int) := by rw [← e3]; rfl
      obtain ⟨y, hy⟩ : ∃ y, y = b / 2 ^ k % 2 := ⟨_, rfl⟩
      rw [← hy] at e8
      have e9 : (y : Int) = 1 ↔ y = 1 := by omega
      simp [e1, e2, e6, e7, e5, e8, IntKind.bits, wrap64s (n := (q : Int)) (by omega) (by omega)]
      refine WC_dec (fun h => ?_) (fun h => ?_)
      · have h' : b / 2 ^ k % 2 = 1 := by omega
        simp
        refine WO_callP [] rfl rfl (hA _ _ (Nat.mod_lt _ hpos) ha) (by simp) (by simp) ?_
        rw [mul_bit1 M a b k h']
        simp
        refine ⟨⟨k, by omega⟩, by simp, ?_⟩
        exact cut_w (by simp [wrap64s (n := (k : Int) - 1) (by omega) (by omega)])
      · have h' : ¬ b / 2 ^ k % 2 = 1 := by omega
        simp
        refine ⟨⟨k, by omega⟩, by simp, ?_⟩
        rw [mul_bit0 M a b k h']
        exact cut_w (by simp [wrap64s (n := (k : Int) - 1) (by omega) (by omega)])
theorem red_dbl (M n k : Nat) : (2 * (n / 2 ^ (k + 1) % M) + n / 2 ^ k % 2) % M = n / 2 ^ k % M := by
  rw [Nat.add_mod, Nat.mul_mod, Nat.mod_mod, ← Nat.mul_mod, ← Nat.add_mod, ← bit_step]
def bitsN (m n : Nat) : List Nat := (List.range m).map fun i => n / 2 ^ i % 2
theorem bitsN_succ (m n : Nat) : bitsN (m + 1) n = bitsN m n ++ [n / 2 ^ m % 2] := by simp [bitsN, List.range_succ]
theorem bitsN_len (m n : Nat) : (bitsN m n).length = m := by simp [bitsN]
theorem fBits_spec (b : List UInt8) (md : Md) (hb : b.length < 2 ^ 40) : FSpec Try.prog 127 [.list 1 md (b.map bv)] [] (.list 1 ⟨false, false, false⟩ ((bitsN (8 * b.length) (byN b)).map (nV .i64))) [] := by
  refine FSpec.of_W fBits_low (by simp) ?_
  simp only [initEnv]
  simp
  refine W_loop (X := { i : Nat // i ≤ 8 * b.length }) (fun i => [(0, .list 1 md (b.map bv)), (3, .slice 1 0 0 i.1 none), (4, .int .i64 i.1)]) (fun i => [some ⟨(bitsN i.1 (byN b)).map (nV .i64), 3, false⟩]) (fun i => 8 * b.length - i.1) ⟨0, by omega⟩ retPost_le ?_ ?_
  · refine cut_trans (cut_ghost 3 1 3 (by simp) rfl rfl) (cut_w ?_)
    simp [bitsN]
  · rintro ⟨k, hi⟩
    simp only
    simp
    have e0 : IntKind.i64.wrap (8 * (b.length : Int)) = ((8 * b.length : Nat) : Int) := by rw [wrap64s (by omega) (by omega)]; simp
    simp only [e0]
    refine WC_dec (fun h => ?_) (fun h => ?_)
    · obtain ⟨q, hq⟩ : ∃ q, q = k / 8 := ⟨_, rfl⟩
      obtain ⟨r, hr⟩ : ∃ r, r = k % 8 := ⟨_, rfl⟩
      have e1 : (k : Int).tdiv 8 = (q : Int) := by rw [hq]; rfl
      have e2 : (k : Int).tmod 8 = (r : Int) := by rw [hr]; rfl
      have e3 := byN_bitD b k
      rw [← hq, ← hr] at e3
      have e7 : q < b.length := by omega
      have e6 : b[q].toNat = (b.getD q 0).toNat := by simp [e7]
      have e5 : ((b[q].toNat : Nat) : Int).fdiv (2 ^ min r 8) = ((b[q].toNat / 2 ^ r : Nat) : Int) := by rw [show min r 8 = r by omega]; exact shr_nat _ _
      rw [← e6] at e3
      generalize b[q].toNat / 2 ^ r = z at *
      have e4 : (z : Int).tmod 2 = ((z % 2 : Nat) : Int) := rfl
      rw [e3] at e4
      obtain ⟨y, hy⟩ : ∃ y, y = byN b / 2 ^ k % 2 := ⟨_, rfl⟩
      rw [← hy] at e4
      simp [e1, e2, e7, e4, e5, IntKind.bits, bitsN_len, wrap64s (n := (q : Int)) (by omega) (by omega), wrap64s (n := (y : Int)) (by omega) (by omega)]
      refine ⟨by omega, ⟨k + 1, by omega⟩, by simp; omega, ?_⟩
      refine cut_rw [1] (by simp) rfl ?_ ?_
      · simp [wrap64s (n := (k : Int) + 1) (by omega) (by omega)]
      · simp [bitsN_succ, List.take_of_length_le, bitsN_len, nV, ← hy]
    · have : k = 8 * b.length := by omega
      subst this
      simp
      exact fin_sl 0 rfl (by simp [bitsN_len]) (by simp) (by simp)
theorem fRReduce_spec (b : List UInt8) (md : Md) (hb : b.length < 2 ^ 40) : FSpec Try.prog 97 [.list 1 md (b.map bv)] [] (.agg (q4 (byN b % Lq))) [] := by
  have hD := fDouble_mod
  have hpos : 1 < Lq := by decide
  generalize Lq = M at *
  refine FSpec.of_W fRReduce_low (by simp) ?_
  simp only [initEnv]
  simp
  refine WO_callP [] rfl rfl (fBits_spec b md hb) (by simp) (by simp) ?_
  simp [bitsN_len]
  refine W_loop (X := { k : Nat // k ≤ 8 * b.length }) (fun i => [(2, .ptr 0 0), (3, .list 1 ⟨false, false, false⟩ ((bitsN (8 * b.length) (byN b)).map (nV .i64))), (4, .ptr 1 0), (5, .int .i64 ((i.1 : Int) - 1))]) (fun i => [some ⟨q4 0, 48, true⟩, some ⟨q4 (byN b / 2 ^ i.1 % M), 48, true⟩]) (fun i => i.1) ⟨8 * b.length, by omega⟩ retPost_le ?_ ?_
  · have e := byN_top8 b
    have e2 : IntKind.i64.wrap (8 * (b.length : Int) - 1) = 8 * (b.length : Int) - 1 := by rw [wrap64s (by omega) (by omega)]
    exact cut_w (by simp [e, e2, q4_zero])
  · rintro ⟨i, hi⟩
    obtain _ | k := i
    · simp
      exact fin_W (by simp)
    · have hg : (bitsN (8 * b.length) (byN b))[k]? = some (byN b / 2 ^ k % 2) := by simp [bitsN, show k < 8 * b.length by omega]
      have hD1 := hD _ (byN b / 2 ^ k % 2) (Nat.mod_lt (byN b / 2 ^ (k + 1)) (Nat.lt_trans Nat.zero_lt_one hpos)) (by omega)
      rw [red_dbl] at hD1
      obtain ⟨y, hy⟩ : ∃ y, y = byN b / 2 ^ k % 2 := ⟨_, rfl⟩
      rw [← hy] at hg hD1
      simp [hg, bitsN_len, nV]
      refine ⟨by omega, ?_⟩
      refine WO_callP [] rfl rfl hD1 (by simp) (by simp) ?_
      simp
      refine ⟨⟨k, by omega⟩, by simp, ?_⟩
      exact cut_w (by simp [wrap64s (n := (k : Int) - 1) (by omega) (by omega)])
attribute [local simp] WS_at_map WSr_at_map WS_at_q4 WSr_at_q4 WS_at_mx mx_set' WS_at_arr WSr_at_arr loadWP splice_full Int.natCast_inj arr_zero32 fill_zero arr_set upd_fill
def decQ (n : Nat) : AV := if n < Lq then .tuple [.agg (q4 n), .int .i64 0] else .tuple [.agg (q4 0), .int .i64 7]
theorem fDecode_spec (l : List UInt8) (hl : l.length = 32) : FSpec Try.prog 98 [.agg (l.map bv)] [] (decQ (byN l)) [] := by
  have hO := fOrder_spec
  have hM2 : Lq < 2 ^ 256 := by decide
  simp only [decQ]
  generalize Lq = M at *
  refine FSpec.of_W fDecode_low (by simp) ?_
  simp only [initEnv]
  simp
  refine ⟨by omega, ?_⟩
  refine W_loop (X := { i : Nat // i ≤ 32 }) (fun i => [(2, .ptr 1 0), (4, .ptr 2 0), (7, .agg (l.map bv)), (8, .int .i64 i.1)]) (fun i => [some ⟨l.map bv, 23, true⟩, some ⟨q4 0, 62, true⟩, some ⟨q4 (byN (l.take i.1)), 62, true⟩]) (fun i => 32 - i.1) ⟨0, by omega⟩ retPost_le ?_ ?_
  · exact cut_w (by simp [hl, List.take_of_length_le, byN, q4_zero])
  · rintro ⟨i, hi⟩
    simp only
    simp
    refine WC_dec (fun h => ?_) (fun h => ?_)
    · have hil : i < l.length := by omega
      have hc : l[i]? = some l[i] := by simp
      obtain ⟨q, hq⟩ : ∃ q, q = i / 8 := ⟨_, rfl⟩
      obtain ⟨r, hr⟩ : ∃ r, r = i % 8 := ⟨_, rfl⟩
      obtain ⟨s, hs⟩ : ∃ s, s = 8 * r := ⟨_, rfl⟩
      have e1 : (i : Int).tdiv 8 = (q : Int) := by rw [hq]; rfl
      have e2 : (i : Int).tmod 8 = (r : Int) := by rw [hr]; rfl
      have e3 : IntKind.i64.wrap (8 * (r : Int)) = (s : Int) := by rw [wrap64s (by omega) (by omega)]; omega
      have hx := UInt8.toNat_lt l[i]
      have e4 := or_val (byN (l.take i)) i q s l[i].toNat hq (by omega) (byN_take32 l i hil) hx
      have e5 : (q : Int) < 4 := by omega
      have e6 : q < 4 := by omega
      have e7 := q4_put (byN (l.take i)) i l[i].toNat (byN_take32 l i hil) hx
      rw [← byN_take l i hil, ← hq, ← hr, ← hs] at e7
      have e8 : IntKind.u64.wrap ((l[i].toNat : Nat) : Int) = (l[i].toNat : Nat) := by rw [wrapu64]; congr 1; omega
      obtain ⟨v, hv⟩ : ∃ v, v = wd (byN (l.take i)) q + l[i].toNat * 2 ^ s := ⟨_, rfl⟩
      rw [← hv] at e4 e7
      simp [h, hc, e1, e2, e3, e4, e5, e6, e8, IntKind.bits, wrap64s (n := (q : Int)) (by omega) (by omega)]
      refine ⟨by omega, ⟨i + 1, by omega⟩, by simp; omega, ?_⟩
      exact cut_w (by simp [e7, wrap64s (n := (i : Int) + 1) (by omega) (by omega)])
    · have : i = 32 := by omega
      subst this
      have hlt : byN l < 2 ^ 256 := by have := byN_lt l; rw [hl] at this; exact this
      simp [List.take_of_length_le (show l.length ≤ 32 by omega)]
      refine WO_callP [] rfl rfl hO (by simp) (by simp) ?_
      simp
      refine WO_callP [] rfl rfl (fLess_spec (byN l) M hlt hM2) (by simp) (by simp) ?_
      simp
      refine WC_ndec (fun h => ?_) (fun h => ?_)
      · simp
        exact fin_W (by simp [h, q4_zero])
      · simp
        exact fin_W (by simp [h])
end Go.Proofs.Ythgibibeoapfbaa
namespace Go.Proofs.Ythgibibeoapfbaa
open Go Go.Fw
attribute [local irreducible] W WX WR WO WS WSr WH WHA WG WC FSpec
attribute [local simp] WS_at_map WSr_at_map WS_at_q4 WSr_at_q4 WS_at_arr WSr_at_arr loadWP splice_full Int.natCast_inj arr_set arr_take
def hashN (b : List UInt8) : Nat := byN (dgst F64 b) % Lq
theorem fRSgHash_spec (l : List (Md × List UInt8)) (md : Md) (hl : (allB l).length < 2 ^ 40) (hn : l.length < 2 ^ 40) : FSpec Try.prog 94 [.list 1 md (l.map lsV)] [] (.agg (q4 (hashN (allB l)))) [] := by
  refine FSpec.of_W fRSgHash_low (by simp) ?_
  simp only [initEnv]
  simp
  refine W_loop (X := { i : Nat // i ≤ l.length }) (fun i => [(0, .list 1 md (l.map lsV)), (2, .ptr 0 0), (3, .slice 1 1 0 (allB (l.take i.1)).length none), (4, .int .i64 i.1)])
    (fun i => [some ⟨q4 0, 48, true⟩, some ⟨(allB (l.take i.1)).map bv, 5, false⟩]) (fun i => l.length - i.1) ⟨0, by omega⟩ retPost_le ?_ ?_
  · refine cut_trans (cut_ghost 3 1 5 (by simp) rfl rfl) (cut_w ?_)
    simp [allB, q4_zero]
  · rintro ⟨i, hi⟩
    have hle := allB_le l i
    simp only at hi ⊢
    simp
    refine WC_dec (fun h => ?_) (fun h => ?_)
    · have hil : i < l.length := by omega
      have hc : l[i]? = some l[i] := by simp
      have ht := allB_take l i hil
      have hle2 := allB_le l (i + 1)
      rw [ht, List.length_append] at hle2
      obtain ⟨st, hst⟩ : ∃ st, st = allB (l.take i) := ⟨_, rfl⟩
      rw [← hst] at ht hle2 ⊢
      simp [hc, lsV]
      repeat (refine ⟨by omega, ?_⟩)
      refine ⟨⟨i + 1, by omega⟩, by simp; omega, ?_⟩
      refine cut_rw [0, 2] (by simp) rfl (by simp [ht, wrap64s (n := (i : Int) + 1) (by omega) (by omega)]) ?_
      simp [ht, List.take_of_length_le]
    · have : i = l.length := by omega
      subst this
      simp
      refine WO_callP [] rfl rfl fLong_spec (by simp) (by simp) ?_
      simp
      have hs := fSum3_spec F64 (.inr rfl) okF64 (allB l) ⟨false, false, true⟩ hl
      refine WO_callP [1] (as' := [.agg (frm F64), .list 1 ⟨false, false, true⟩ ((allB l).map bv)]) rfl (by simp [List.take_of_length_le]) hs (by simp) (by simp) ?_
      simp
      have hr := fRReduce_spec (dgst F64 (allB l)) ⟨false, false, false⟩ (by simp)
      refine WO_callP [] rfl rfl hr (by simp) (by simp) ?_
      simp
      exact fin_W (by simp [hashN])
end Go.Proofs.Ythgibibeoapfbaa
namespace Go.Proofs.Ythgibibeoapfbaa
open Go Go.Fw
attribute [local irreducible] W WX WR WO WS WSr WH WHA WG WC FSpec
attribute [local simp] WS_at_map WSr_at_map loadWP splice_full Int.natCast_inj
noncomputable def verP (key sig msg : List UInt8) : Bool :=
  match decE (byN key) with
  | none => false
  | some (ax, ay) => match decE (byN (sig.take 32)) with
    | none => false
    | some (rx, ry) => if byN (sig.drop 32) < Lq then sameE (pB (byN (sig.drop 32))) (addE [atE rx ry, timesE (wholeE (atE ax ay)) (hashN (sig.take 32 ++ (key ++ msg))) 256]) else false
noncomputable def verI (b : Bool) : Int := if b then 0 else 9
set_option maxRecDepth 100000 in
set_option maxHeartbeats 4000000 in
theorem fSgVerify_spec (key sig : List UInt8) (hk : key.length = 32) (hs : sig.length = 64) (l : List (Md × List UInt8)) (md : Md) (hl : (allB l).length < 2 ^ 39) (hn : l.length < 2 ^ 39) : FSpec Try.prog 47 [.agg (key.map bv), .agg (sig.map bv), .list 1 md (l.map lsV)] [] (.int .i64 (verI (verP key sig (allB l)))) [] := by
  have d1 := fCvDecode_spec key hk
  have d2 := fCvDecode_spec (sig.take 32) (by simp [hs])
  have d3 := fDecode_spec (sig.drop 32) (by simp [hs])
  have kt : List.take 32 (key.map bv) = key.map bv := List.take_of_length_le (by simp [hk])
  rw [List.map_take] at d2
  rw [List.map_drop] at d3
  have kt3 : List.take 32 (List.drop 32 (sig.map bv)) = List.drop 32 (sig.map bv) := List.take_of_length_le (by simp [hs])
  have hO := fCvBase_spec
  have t1 := fCvTimes_spec (atE (toF baseX) (toF baseY)) (byN (sig.drop 32))
  rw [show timesE (wholeE (atE (toF baseX) (toF baseY))) (byN (sig.drop 32)) 256 = pB (byN (sig.drop 32)) from rfl] at t1
  have hG := fGOf_spec ([(⟨false, false, false⟩, sig.take 32), (⟨false, true, false⟩, key)] ++ l) ⟨false, false, false⟩ (by simp [allB, hs, hk] at *; omega) (by simp; omega)
  have hAll : allB ([(⟨false, false, false⟩, sig.take 32), (⟨false, true, false⟩, key)] ++ l) = sig.take 32 ++ (key ++ allB l) := by simp [allB]
  rw [hAll] at hG
  have hR := fReduce_spec (dgst F64 (sig.take 32 ++ (key ++ allB l))) ⟨false, true, true⟩ (by simp)
  have hdl : (dgst F64 (sig.take 32 ++ (key ++ allB l))).length = 64 := by simp
  rw [show byN (dgst F64 (sig.take 32 ++ (key ++ allB l))) % Lq = hashN (sig.take 32 ++ (key ++ allB l)) from rfl] at hR
  unfold verP
  generalize hashN (sig.take 32 ++ (key ++ allB l)) = k at *
  generalize dgst F64 (sig.take 32 ++ (key ++ allB l)) = D at *
  generalize atE (toF baseX) (toF baseY) = B at *
  generalize byN (sig.drop 32) = n at *
  generalize pB n = p at *
  refine FSpec.of_W (c := (.seq (.reg fSgVerify_r0) (.seq (.reg fSgVerify_r1) (.seq (.seq (.reg fSgVerify_r2) (.cond (.t 18) fSgVerify_k0 (.kill [18] .skip))) (.kill [6, 8, 17, 18] (.seq (.reg fSgVerify_r4) (.seq (.seq (.reg fSgVerify_r5) (.cond (.t 27) fSgVerify_k1 (.kill [27] .skip))) (.kill [6, 8, 26, 27] (.seq (.reg fSgVerify_r7) (.seq (.seq (.reg fSgVerify_r8) (.cond (.t 36) fSgVerify_k2 (.kill [36] .skip))) (.cut (.kill [6, 8, 35, 36] (.seq (.draw fSgVerify_r10) (.seq (.seq (.draw fSgVerify_r11) (.cond (.t 54) fSgVerify_k3 (.keep [] .skip))) (.keep [] (.seq (.reg fSgVerify_r13) .ret)))))))))))))))) fSgVerify_low (by simp) ?_
  simp only [initEnv]
  simp [hk, hs, kt]
  generalize decE (byN key) = A at *
  obtain _ | ⟨ax, ay⟩ := A
  · simp only at d1 ⊢
    simp only [ptC, List.append_assoc] at d1
    refine WO_callP [] rfl rfl d1 (by simp [q4]) (by simp [q4]) ?_
    simp [q4]
    exact fin_W (by simp [verI])
  simp only at d1 ⊢
  have u1 := fCvTimes_spec (atE ax ay) k
  generalize timesE (wholeE (atE ax ay)) k 256 = kA at *
  generalize atE ax ay = A at *
  simp only [ptC, List.append_assoc] at d1 u1
  refine WO_callP [] rfl rfl d1 (by simp [q4]) (by simp [q4]) ?_
  simp [q4, hs, kt]
  generalize decE (byN (sig.take 32)) = R at *
  obtain _ | ⟨rx, ry⟩ := R
  · simp only at d2 ⊢
    simp only [ptC, List.append_assoc] at d2
    refine WO_callP [] rfl rfl d2 (by simp [q4]) (by simp [q4]) ?_
    simp [q4]
    exact fin_W (by simp [verI])
  simp only at d2 ⊢
  generalize atE rx ry = R at *
  simp only [ptC, List.append_assoc] at d2
  refine WO_callP [] rfl rfl d2 (by simp [q4]) (by simp [q4]) ?_
  simp [q4, hs, kt, kt3]
  unfold decQ at d3
  by_cases hnL : n < Lq
  · rw [if_pos hnL] at d3
    have a1 := fCvAdd_spec [R, kA] ⟨false, true, false⟩ (by simp)
    rw [ptL2] at a1
    generalize addE [R, kA] = Y at *
    have s1 := fCvSame_spec p Y
    generalize sameE p Y = z at *
    generalize Lq = L at *
    simp only [ptC, List.append_assoc] at a1 s1 t1 hO u1
    refine WO_callP [] rfl rfl d3 (by simp [q4]) (by simp [q4]) ?_
    simp [q4, hs, kt, kt3, hnL]
    refine W_cut (cut_trans (cut_frz 0 rfl) (cut_frz 1 rfl)) ?_
    simp [q4, hs, kt, kt3, hnL]
    refine ⟨by omega, ⟨by omega, by omega⟩, ?_⟩
    simp only [List.map_append, List.map_cons, List.map_nil, lsV, List.cons_append, List.nil_append, List.map_take] at hG
    refine WO_callQ rfl hG (by simp) ?_
    simp [q4, hs, kt, kt3, hdl]
    refine ⟨⟨⟨by omega, by omega⟩, by omega⟩, ?_⟩
    refine WO_callP [] rfl rfl hO (by simp [q4]) (by simp [q4, hdl]) ?_
    simp [q4]
    refine WO_callP [] rfl rfl t1 (by simp [q4]) (by simp [q4, hdl]) ?_
    simp [q4]
    refine WO_callP [5] (as' := [.list 1 ⟨false, true, true⟩ (D.map bv)]) rfl (by simp [hdl, List.take_of_length_le]) hR (by simp [q4]) (by simp [q4, hdl]) ?_
    simp [q4]
    refine WO_callP [] rfl rfl u1 (by simp [q4]) (by simp [q4, hdl]) ?_
    simp [q4]
    refine WO_callP [] rfl rfl a1 (by simp [q4]) (by simp [q4, hdl]) ?_
    simp [q4]
    refine WO_callP [] rfl rfl s1 (by simp [q4]) (by simp [q4, hdl]) ?_
    cases z
    · simp
      exact fin_W (by simp [verI])
    · simp
      exact fin_W (by simp [verI])
  · rw [if_neg hnL] at d3
    refine WO_callP [] rfl rfl d3 (by simp [q4]) (by simp [q4, hdl]) ?_
    simp [q4, hnL]
    exact fin_W (by simp [verI])
end Go.Proofs.Ythgibibeoapfbaa
namespace Go.Proofs.Ythgibibeoapfbaa
open Go Go.Fw
attribute [local irreducible] W WX WR WO WS WSr WH WHA WG WC FSpec
attribute [local simp] WS_at_map WSr_at_map WS_at_q4 WSr_at_q4 WS_at_arr WSr_at_arr loadWP splice_full Int.natCast_inj arr_zero32 fill_zero arr_set upd_fill q17_d q17_t q17_t0 q17_d34 q17_t51 q17_s0 q17_s17 q17_s34 hk17
def sbN (n k : Nat) : Nat → Nat := fun j => wd n j / 256 ^ (k - 8 * j)
theorem sbN_top (n : Nat) : arr .u64 4 (sbN n 32) = q4 0 := by
  rw [q4_arr]
  refine arr_ext fun j hj => ?_
  have e : 256 ^ 8 ≤ 256 ^ (32 - 8 * j) := Nat.pow_le_pow_right (by decide) (by omega)
  have h := wd_lt n j
  simp only [sbN]
  rw [Nat.div_eq_of_lt (Nat.lt_of_lt_of_le h e)]
  simp [wd]
theorem sbN_zero (n : Nat) : arr .u64 4 (sbN n 0) = q4 n := by
  rw [q4_arr]
  refine arr_ext fun j hj => ?_
  simp [sbN]
theorem sbN_step (n k : Nat) : upd (sbN n (k + 1)) (k / 8) (wd n (k / 8) / 256 ^ (k % 8)) = sbN n k := by
  funext j
  simp only [upd, sbN]
  by_cases h : j = k / 8
  · subst h
    rw [if_pos rfl]; congr 2; omega
  · rw [if_neg h]
    by_cases h2 : k < 8 * j
    · rw [show k + 1 - 8 * j = 0 by omega, show k - 8 * j = 0 by omega]
    · have hl := wd_lt n j
      have e1 : 256 ^ 8 ≤ 256 ^ (k - 8 * j) := Nat.pow_le_pow_right (by decide) (by omega)
      have e2 : 256 ^ 8 ≤ 256 ^ (k + 1 - 8 * j) := Nat.pow_le_pow_right (by decide) (by omega)
      rw [Nat.div_eq_of_lt (Nat.lt_of_lt_of_le hl e1), Nat.div_eq_of_lt (Nat.lt_of_lt_of_le hl e2)]
theorem sbN_add (l : List UInt8) (k : Nat) (h : k < l.length) : IntKind.u64.wrap (IntKind.u64.wrap ((sbN (byN l) (k + 1) (k / 8) : Nat) * 256) + (l[k].toNat : Nat)) = (wd (byN l) (k / 8) / 256 ^ (k % 8) : Nat) := by
  have hx := UInt8.toNat_lt l[k]
  have hw := wd_lt (byN l) (k / 8)
  have e0 : sbN (byN l) (k + 1) (k / 8) = wd (byN l) (k / 8) / 256 ^ (k % 8) / 256 := by
    simp only [sbN]
    rw [show k + 1 - 8 * (k / 8) = k % 8 + 1 by omega, Nat.pow_succ, Nat.div_div_eq_div_mul]
  have e1 : wd (byN l) (k / 8) / 256 ^ (k % 8) % 256 = l[k].toNat := by
    rw [← byN_byte l k h, ← wd_byte (byN l) k, show (256 : Nat) ^ (k % 8) = 2 ^ (8 * (k % 8)) by rw [Nat.pow_mul]]
  have e2 : wd (byN l) (k / 8) / 256 ^ (k % 8) < 2 ^ 64 := Nat.lt_of_le_of_lt (Nat.div_le_self _ _) hw
  rw [e0]
  generalize wd (byN l) (k / 8) / 256 ^ (k % 8) = z at *
  rw [show (((z / 256 : Nat) : Int) * 256) = ((z / 256 * 256 : Nat) : Int) by simp, wrapu64, Nat.mod_eq_of_lt (by omega), show (((z / 256 * 256 : Nat) : Int) + (l[k].toNat : Nat)) = ((z / 256 * 256 + l[k].toNat : Nat) : Int) by simp, wrapu64, Nat.mod_eq_of_lt (by omega)]
  congr 1; omega
theorem byteAt (l : List UInt8) (m o : Nat) (h : l.length = o + m) : arr .u8 m (fun k => (l.getD (o + k) 0).toNat) = (l.drop o).map bv := by
  refine List.ext_getElem (by simp [h]) fun k h1 h2 => ?_
  simp only [arr_length] at h1
  have : o + k < l.length := by omega
  simp [arr_getElem, bv, this]
theorem dec_abs (l : List UInt8) (hl : l.length = 32) : ∃ C : List AV, (C.length = 51 ∧ C.take 51 = C ∧ (idsL (fun _ => false) C = true ∧ cleanL C = true) ∧ ∀ n, ltL n C = true) ∧ FSpec Try.prog 25 [.agg (l.map bv)] [] (.tuple [.agg C, .bool (decE (byN l)).isSome]) [] ∧ ∀ x y, decE (byN l) = some (x, y) → C = rpC ⟨x, y, 1⟩ := by
  have h := fRCvDecode_spec l hl
  generalize decE (byN l) = D at *
  obtain _ | ⟨x, y⟩ := D
  · exact ⟨_, ⟨by simp, by simp, by simp, by simp⟩, h, fun _ _ q => by cases q⟩
  · refine ⟨_, ⟨by simp [rpC], List.take_of_length_le (by simp [rpC]), by simp [rpC], by intro n; simp [rpC]⟩, h, fun _ _ q => by cases q; rfl⟩
theorem ver_ref {key sig msg : List UInt8} {ax ay rx ry : Fp} (h1 : decE (byN key) = some (ax, ay)) (h2 : decE (byN (sig.take 32)) = some (rx, ry)) (h3 : byN (sig.drop 32) < Lq) :
    verP key sig msg = sameR (mB (byN (sig.drop 32))) (Cv.addR (toF dP) ⟨rx, ry, 1⟩ (timesR ⟨ax, ay, 1⟩ (hashN (sig.take 32 ++ (key ++ msg))) (toF dP) 256)) := by
  unfold verP
  rw [h1]; simp only; rw [h2]; simp only; rw [if_pos h3]
  have hk : hashN (sig.take 32 ++ (key ++ msg)) < 2 ^ 256 := Nat.lt_of_lt_of_le (Nat.mod_lt _ (by decide)) (Nat.le_of_lt (Nat.lt_of_lt_of_le Lq_lt (by decide)))
  have hn : byN (sig.drop 32) < 2 ^ 256 := Nat.lt_of_lt_of_le h3 (Nat.le_of_lt (Nat.lt_of_lt_of_le Lq_lt (by decide)))
  generalize hashN (sig.take 32 ++ (key ++ msg)) = k at *
  let A : Cv.Pt FP := ⟨ax, ay, (decE_on h1).1⟩
  let R : Cv.Pt FP := ⟨rx, ry, (decE_on h2).1⟩
  have rA : Cv.Rep (atE ax ay) A := rep_at A
  have rR : Cv.Rep (atE rx ry) R := rep_at R
  have qA : Cv.RRep ⟨ax, ay, 1⟩ A := rrep_at A
  have qR : Cv.RRep ⟨rx, ry, 1⟩ R := rrep_at R
  exact bool_eq (sameE_rep (pB_rep hn) (add2_rep rR (times256 rA hk))) (sameR_rep (mB_rep hn) (Cv.addR_rep qR (timesR256 qA hk)))
theorem ver_no {key sig msg : List UInt8} (h : (decE (byN key)).isSome = false ∨ (decE (byN (sig.take 32))).isSome = false ∨ ¬ byN (sig.drop 32) < Lq) : verP key sig msg = false := by
  unfold verP
  cases h1 : decE (byN key) with
  | none => rfl
  | some a => cases h2 : decE (byN (sig.take 32)) with
    | none => rfl
    | some r =>
      rw [h1, h2] at h
      rcases h with h | h | h
      · cases h
      · cases h
      · exact if_neg h
set_option maxRecDepth 100000 in
set_option maxHeartbeats 4000000 in
theorem fRSgVerify_spec (key sig msg : List UInt8) (hk : key.length = 32) (hs : sig.length = 64) (md : Md) (hm : msg.length < 2 ^ 39) : FSpec Try.prog 48 [.agg (key.map bv), .list 1 md (msg.map bv), .agg (sig.map bv)] [] (.bool (verP key sig msg)) [] := by
  obtain ⟨A, ⟨A1, A2, A3, A4⟩, d1, A5⟩ := dec_abs key hk
  obtain ⟨R, ⟨R1, R2, R3, R4⟩, d2, R5⟩ := dec_abs (sig.take 32) (by simp [hs])
  have hnlt : byN (sig.drop 32) < 2 ^ 256 := by have := byN_lt (sig.drop 32); rw [show (sig.drop 32).length = 32 by simp [hs]] at this; exact this
  have d3 := fBelow_spec (byN (sig.drop 32)) hnlt
  have kt : List.take 32 (key.map bv) = key.map bv := List.take_of_length_le (by simp [hk])
  have hb1 : arr .u8 32 (fun k => (sig.getD k 0).toNat) = (sig.map bv).take 32 := by
    have := byteAt (sig.take 32) 32 0 (by simp [hs])
    simp only [List.drop_zero, Nat.zero_add] at this
    rw [← List.map_take, ← this]
    exact arr_ext fun k hk => by simp [List.getD_eq_getElem?_getD, List.getElem?_take, hk]
  have hb2 := byteAt sig 32 32 hs
  have kt2 : List.take 32 (List.take 32 (sig.map bv)) = List.take 32 (sig.map bv) := List.take_of_length_le (by simp [hs])
  rw [List.map_take] at d2
  refine FSpec.of_W fRSgVerify_low (by simp) ?_
  simp only [initEnv]
  simp [hk, hs]
  refine W_loop (X := { i : Nat // i ≤ 32 }) (fun i => [(1, .list 1 md (msg.map bv)), (3, .ptr 0 0), (5, .ptr 1 0), (7, .ptr 2 0), (8, .ptr 3 0), (9, .int .i64 i.1)])
    (fun i => [some ⟨key.map bv, 23, true⟩, some ⟨sig.map bv, 25, true⟩, some ⟨arr .u8 32 (fill i.1 fun k => (sig.getD k 0).toNat), 23, true⟩, some ⟨arr .u8 32 (fill i.1 fun k => (sig.getD (32 + k) 0).toNat), 23, true⟩]) (fun i => 32 - i.1) ⟨0, by omega⟩ retPost_le ?_ ?_
  · exact cut_w (by simp)
  · rintro ⟨i, hi⟩
    simp only
    simp
    refine WC_dec (fun h => ?_) (fun h => ?_)
    · have h1 : i < sig.length := by omega
      have h2 : 32 + i < sig.length := by omega
      have c1 : sig[i]? = some sig[i] := by simp
      have c2 : sig[32 + i]? = some sig[32 + i] := by simp
      have g1 : (sig.getD i 0).toNat = sig[i].toNat := by simp [h1]
      have g2 : (sig.getD (32 + i) 0).toNat = sig[32 + i].toNat := by simp [h2]
      have u1 := upd_fill i (fun k => (sig.getD k 0).toNat)
      have u2 := upd_fill i (fun k => (sig.getD (32 + k) 0).toNat)
      simp only [g1] at u1
      simp only [g2] at u2
      have w1 : IntKind.i64.wrap (32 + (i : Int)) = ((32 + i : Nat) : Int) := by rw [wrap64s (by omega) (by omega)]; simp
      have w2 : IntKind.i64.wrap ((i : Int) + 1) = (i : Int) + 1 := wrap64s (by omega) (by omega)
      simp [h, c1, c2, w1, w2, hs]
      repeat (refine ⟨by omega, ?_⟩)
      simp only [List.getD_eq_getElem?_getD] at u1 u2
      refine ⟨⟨i + 1, by omega⟩, by simp; omega, ?_⟩
      exact cut_w (by simp [u1, u2, show (32 + (i : Int)).toNat = 32 + i by omega, c2])
    · have : i = 32 := by omega
      subst this
      simp only [List.getD_eq_getElem?_getD] at hb1 hb2
      simp [arr_fill, hb1, hb2, kt]
      refine ⟨by omega, ?_⟩
      refine WO_callP [] rfl rfl d1 (by simp [A3]) (by simp [hk]) ?_
      simp [A1, A2, A3, A4, hk, kt2]
      refine ⟨by omega, ?_⟩
      refine WO_callP [] rfl rfl d2 (by simp [R3]) (by simp [hs]) ?_
      simp [R1, R2, R3, R4, hs]
      obtain ⟨S, hS⟩ : ∃ S, S = sig.drop 32 := ⟨_, rfl⟩
      rw [← hS] at d3 hnlt
      have hSl : S.length = 32 := by rw [hS]; simp [hs]
      have hSm : List.drop 32 (List.map bv sig) = S.map bv := by rw [hS, List.map_drop]
      simp only [hSm]
      refine W_loop (X := { k : Nat // k ≤ 32 }) (fun i => [(1, .list 1 md (msg.map bv)), (3, .ptr 0 0), (7, .ptr 2 0), (8, .ptr 3 0), (10, .ptr 4 0), (11, .bool (decE (byN key)).isSome), (12, .ptr 5 0), (13, .bool (decE (byN (sig.take 32))).isSome), (14, .ptr 6 0), (15, .int .i64 ((i.1 : Int) - 1))])
        (fun i => [some ⟨key.map bv, 23, true⟩, some ⟨sig.map bv, 25, true⟩, some ⟨(sig.map bv).take 32, 23, true⟩, some ⟨S.map bv, 23, true⟩, some ⟨A, 57, true⟩, some ⟨R, 57, true⟩, some ⟨arr .u64 4 (sbN (byN S) i.1), 48, true⟩]) (fun i => i.1) ⟨32, by omega⟩ retPost_le ?_ ?_
      · exact cut_w (by simp [sbN_top, A4, R4, q4_zero])
      · rintro ⟨i, hi⟩
        obtain _ | k := i
        · simp [sbN_zero]
          refine WO_callP [] rfl rfl d3 (by simp) (by simp) ?_
          by_cases h1 : (decE (byN key)).isSome = true
          · by_cases h2 : (decE (byN (sig.take 32))).isSome = true
            · by_cases h3 : byN S < Lq
              · obtain ⟨⟨ax, ay⟩, hA⟩ := Option.isSome_iff_exists.1 h1
                obtain ⟨⟨rx, ry⟩, hR⟩ := Option.isSome_iff_exists.1 h2
                have hV := ver_ref (msg := msg) hA hR (by rw [← hS]; exact h3)
                rw [← hS] at hV
                rw [hV]
                obtain rfl := A5 ax ay hA
                obtain rfl := R5 rx ry hR
                have hB := fRCvBase_spec
                have hD := fRCvD_spec
                have hH := fRSgHash_spec [(⟨false, true, false⟩, sig.take 32), (⟨false, true, false⟩, key), (md, msg)] ⟨false, true, false⟩ (by simp [allB, hs, hk]; omega) (by simp)
                rw [show allB [(⟨false, true, false⟩, sig.take 32), (⟨false, true, false⟩, key), (md, msg)] = sig.take 32 ++ (key ++ msg) by simp [allB]] at hH
                simp only [List.map_cons, List.map_nil, lsV, List.map_take] at hH
                have t1 := fRCvTimes_spec ⟨toF baseX, toF baseY, 1⟩ (byN S) (toF dP)
                rw [show timesR ⟨toF baseX, toF baseY, 1⟩ (byN S) (toF dP) 256 = mB (byN S) from rfl] at t1
                have t2 := fRCvTimes_spec ⟨ax, ay, 1⟩ (hashN (sig.take 32 ++ (key ++ msg))) (toF dP)
                have a1 := fRCvAdd_spec ⟨rx, ry, 1⟩ (timesR ⟨ax, ay, 1⟩ (hashN (sig.take 32 ++ (key ++ msg))) (toF dP) 256) (toF dP)
                have s1 := fRCvSame_spec (mB (byN S)) (Cv.addR (toF dP) ⟨rx, ry, 1⟩ (timesR ⟨ax, ay, 1⟩ (hashN (sig.take 32 ++ (key ++ msg))) (toF dP) 256))
                clear hV A5 R5 d1 d2
                generalize sameR (mB (byN S)) (Cv.addR (toF dP) ⟨rx, ry, 1⟩ (timesR ⟨ax, ay, 1⟩ (hashN (sig.take 32 ++ (key ++ msg))) (toF dP) 256)) = z at *
                generalize Cv.addR (toF dP) ⟨rx, ry, 1⟩ (timesR ⟨ax, ay, 1⟩ (hashN (sig.take 32 ++ (key ++ msg))) (toF dP) 256) = Y at *
                generalize timesR ⟨ax, ay, 1⟩ (hashN (sig.take 32 ++ (key ++ msg))) (toF dP) 256 = KA at *
                generalize hashN (sig.take 32 ++ (key ++ msg)) = h at *
                generalize mB (byN S) = M at *
                generalize toF baseX = bx at *
                generalize toF baseY = by' at *
                generalize toF dP = d at *
                simp only [rpC] at *
                simp [h1, h2, h3]
                refine WO_callP [] rfl rfl hD (by simp) (by simp) ?_
                simp
                refine W_cut (cut_trans (cut_frz 0 rfl) (cut_frz 2 rfl)) ?_
                simp [hk, hs, kt, kt2]
                refine WO_callQ rfl hH (by simp) ?_
                simp [hk, hs, kt, kt2]
                refine WO_callP [] rfl rfl hB (by simp) (by simp) ?_
                simp
                refine WO_callP [] rfl rfl t1 (by simp) (by simp) ?_
                simp
                refine WO_callP [] rfl rfl t2 (by simp) (by simp) ?_
                simp
                refine WO_callP [] rfl rfl a1 (by simp) (by simp) ?_
                simp
                refine WO_callP [] rfl rfl s1 (by simp) (by simp) ?_
                simp
                exact fin_W (by simp)
              · simp [h1, h2, h3]
                exact fin_W (by simp [ver_no (key := key) (sig := sig) (msg := msg) (.inr (.inr (by rw [← hS]; exact h3)))])
            · simp [h1, h2]
              exact fin_W (by simp [ver_no (key := key) (sig := sig) (msg := msg) (.inr (.inl (Bool.eq_false_iff.2 h2)))])
          · simp [h1]
            exact fin_W (by simp [ver_no (key := key) (sig := sig) (msg := msg) (.inl (Bool.eq_false_iff.2 h1))])
        · have hk2 : k < S.length := by omega
          have hc : S[k]? = some S[k] := by simp
          obtain ⟨q, hq⟩ : ∃ q, q = k / 8 := ⟨_, rfl⟩
          have e1 : (k : Int).tdiv 8 = (q : Int) := by rw [hq]; rfl
          have e2 := sbN_add S k hk2
          have e3 := sbN_step (byN S) k
          rw [← hq] at e2 e3
          have e4 : IntKind.u64.wrap ((S[k].toNat : Nat) : Int) = (S[k].toNat : Nat) := by rw [wrapu64]; have := UInt8.toNat_lt S[k]; congr 1; omega
          obtain ⟨v, hv⟩ : ∃ v, v = wd (byN S) q / 256 ^ (k % 8) := ⟨_, rfl⟩
          rw [← hv] at e2 e3
          have e5 : (q : Int) < 4 := by omega
          have e6 : q < 4 := by omega
          simp [e1, hc, e2, e4, e5, e6, hk2, IntKind.bits, wrap64s (n := (q : Int)) (by omega) (by omega)]
          repeat (refine ⟨by omega, ?_⟩)
          refine ⟨⟨k, by omega⟩, by simp, ?_⟩
          exact cut_w (by simp [e3, A4, R4, wrap64s (n := (k : Int) - 1) (by omega) (by omega)])
end Go.Proofs.Ythgibibeoapfbaa
namespace Go.Proofs.Ythgibibeoapfbaa
open Go Go.Fw
attribute [local irreducible] W WX WR WO WS WSr WH WHA WG WC FSpec
attribute [local simp] WS_at_map WSr_at_map loadWP splice_full Int.natCast_inj
def keyL : List UInt8 := [215, 90, 152, 1, 130, 177, 10, 183, 213, 75, 254, 211, 201, 100, 7, 58, 14, 225, 114, 243, 218, 166, 35, 37, 175, 2, 26, 104, 247, 7, 81, 26]
def sigL : List UInt8 := [229, 86, 67, 0, 195, 96, 172, 114, 144, 134, 226, 204, 128, 110, 130, 138, 132, 135, 127, 30, 184, 229, 217, 116, 216, 115, 224, 101, 34, 73, 1, 85, 95, 184, 130, 21, 144, 163, 59, 172, 198, 30, 57, 112, 28, 249, 180, 107, 210, 91, 245, 240, 89, 91, 190, 36, 101, 81, 65, 67, 142, 122, 16, 11]
def badL : List UInt8 := [229, 86, 67, 0, 195, 96, 172, 114, 144, 134, 226, 204, 128, 110, 130, 138, 132, 135, 127, 30, 184, 229, 217, 116, 216, 115, 224, 101, 34, 73, 1, 85, 95, 184, 130, 21, 144, 163, 59, 172, 194, 30, 57, 112, 28, 249, 180, 107, 210, 91, 245, 240, 89, 91, 190, 36, 101, 81, 65, 67, 142, 122, 16, 11]
def kAx : Nat := 38815646466658113194383306759739515082307681141926459231621296960732224964046
def kAy : Nat := 11903303657706407974989296177215005343713679411332034699907763981919547054807
def kRx : Nat := 44370630452101398467924320556439323233869374150616132215183787387252341590058
def kRy : Nat := 38448863731492799660668882834560725606410712239157980760146247592118262650597
def kN1 : Nat := 5004556735901913393272427758925840403246877222315506387332009764265656498271
def kN2 : Nat := 5004556735901913393272427758925840403246877222315506387258222787970818291807
def kH1 : Nat := 1958233733501237659471134851339390337284068724042047466985993338226439154310
def kH2 : Nat := 5739917060239399386628100714654249777605879736788356462454918389142766655041
def mulK {α : Type} (n bx by' bt : Nat) : Nat → Nat → Nat → Nat → Nat → (Nat → Nat → Nat → Nat → α) → α
  | 0, x, y, z, t, k => k x y z t
  | i + 1, x, y, z, t, k => sumK x y z t x y z t fun x y z t => bif Nat.beq (n / 2 ^ i % 2) 1 then sumK x y z t bx by' 1 bt fun x y z t => mulK n bx by' bt i x y z t k else mulK n bx by' bt i x y z t k
theorem mulK_eq {α : Type} {Q : Cv.EP Fp} {P : Cv.Pt FP} (hQ : Cv.Rep Q P) (hz : fv Q.z = 1) (n : Nat) : ∀ (i : Nat) (p : Cv.EP Fp), Cv.Rep p (Cv.smul (n / 2 ^ i) P) → ∃ q, Cv.Rep q (Cv.smul n P) ∧ ∀ k : Nat → Nat → Nat → Nat → α, mulK n (fv Q.x) (fv Q.y) (fv Q.t) i (fv p.x) (fv p.y) (fv p.z) (fv p.t) k = k (fv q.x) (fv q.y) (fv q.z) (fv q.t)
  | 0, p, hp => by
    rw [Nat.pow_zero, Nat.div_one] at hp
    exact ⟨p, hp, fun _ => rfl⟩
  | i + 1, p, hp => by
    have hd := Cv.sum_rep hp hp
    rw [← Cv.smul_add] at hd
    have hs : n / 2 ^ i = n / 2 ^ (i + 1) + n / 2 ^ (i + 1) + n / 2 ^ i % 2 := by
      rw [Nat.pow_succ, ← Nat.div_div_eq_div_mul]; omega
    by_cases c : n / 2 ^ i % 2 = 1
    · have hd2 := Cv.sum_rep hd hQ
      obtain ⟨q, h1, h2⟩ := mulK_eq (α := α) hQ hz n i (Cv.sumE (toF dP) (Cv.sumE (toF dP) p p) Q) (by rw [hs, c]; exact hd2)
      refine ⟨q, h1, fun k => ?_⟩
      unfold mulK
      rw [sumK_eq, c, Nat.beq_refl, cond_true]
      have h3 := sumK_eq (Cv.sumE (toF dP) p p) Q (fun x y z t => mulK n (fv Q.x) (fv Q.y) (fv Q.t) i x y z t k)
      rw [hz] at h3
      rw [h3]
      exact h2 k
    · have c0 : n / 2 ^ i % 2 = 0 := by omega
      obtain ⟨q, h1, h2⟩ := mulK_eq (α := α) hQ hz n i (Cv.sumE (toF dP) p p) (by rw [hs, c0, Nat.add_zero]; exact hd)
      refine ⟨q, h1, fun k => ?_⟩
      unfold mulK
      rw [sumK_eq, c0, show Nat.beq 0 1 = false from rfl, cond_false]
      exact h2 k
def chkN (n bx by' bt h ax ay at' rx ry rt : Nat) : Bool :=
  mulK n bx by' bt 253 0 1 1 0 fun x1 y1 z1 _ => mulK h ax ay at' 253 0 1 1 0 fun x2 y2 z2 t2 => sumK rx ry 1 rt x2 y2 z2 t2 fun x3 y3 z3 _ => Nat.beq (mlp x1 z3) (mlp x3 z1) && Nat.beq (mlp y1 z3) (mlp y3 z1)
theorem beq_fv (a b c d : Fp) : Nat.beq (mlp (fv a) (fv b)) (mlp (fv c) (fv d)) = decide (a * b = c * d) := by
  unfold mlp
  rw [← fv_mul, ← fv_mul]
  by_cases h : a * b = c * d
  · rw [h, Nat.beq_refl, decide_eq_true rfl]
  · rw [decide_eq_false h]
    cases q : Nat.beq (fv (a * b)) (fv (c * d)) with
    | false => rfl
    | true => exact absurd (fv_inj.1 (Nat.eq_of_beq_eq_true q)) h
theorem mulK_none {α : Type} {P : Cv.Pt FP} {n : Nat} (hn : n < Lq) : ∃ q, Cv.Rep q (Cv.smul n P) ∧ ∀ k : Nat → Nat → Nat → Nat → α, mulK n (fv P.x) (fv P.y) (fv (P.x * P.y)) 253 0 1 1 0 k = k (fv q.x) (fv q.y) (fv q.z) (fv q.t) := by
  have e0 : fv noneE.x = 0 := fv_zero
  have e1 : fv noneE.y = 1 := fv_one
  have e2 : fv noneE.z = 1 := fv_one
  have e3 : fv noneE.t = 0 := by show fv (0 * 1 : Fp) = 0; rw [fv_mul, fv_zero, Nat.zero_mul, Nat.zero_mod]
  obtain ⟨q, h1, h2⟩ := mulK_eq (α := α) (rep_at P) fv_one n 253 noneE (by rw [Nat.div_eq_of_lt (Nat.lt_trans hn Lq_lt)]; exact rep_none)
  rw [e0, e1, e2, e3] at h2
  exact ⟨q, h1, h2⟩
theorem ver_num {key sig msg : List UInt8} {ax ay rx ry n h : Nat} (l1 : ax < p25) (l2 : ay < p25) (l3 : rx < p25) (l4 : ry < p25) (h1 : decE (byN key) = some (toF ax, toF ay)) (h2 : decE (byN (sig.take 32)) = some (toF rx, toF ry)) (h3 : n < Lq) (hn : byN (sig.drop 32) = n) (hh : hashN (sig.take 32 ++ (key ++ msg)) = h) :
    verP key sig msg = chkN n baseX baseY (baseX * baseY % p25) h ax ay (ax * ay % p25) rx ry (rx * ry % p25) := by
  have hhl : h < Lq := by rw [← hh]; exact Nat.mod_lt _ (by decide)
  have b3 : n < 2 ^ 256 := Nat.lt_trans h3 (Nat.lt_trans Lq_lt (by decide))
  have b4 : h < 2 ^ 256 := Nat.lt_trans hhl (Nat.lt_trans Lq_lt (by decide))
  unfold verP
  rw [h1]; simp only; rw [h2]; simp only; rw [hn, hh, if_pos h3]
  obtain ⟨A, hA⟩ : ∃ A : Cv.Pt FP, A = ⟨toF ax, toF ay, (decE_on h1).1⟩ := ⟨_, rfl⟩
  obtain ⟨R, hR⟩ : ∃ R : Cv.Pt FP, R = ⟨toF rx, toF ry, (decE_on h2).1⟩ := ⟨_, rfl⟩
  have rA : Cv.Rep (atE (toF ax) (toF ay)) A := by rw [hA]; exact rep_at (⟨toF ax, toF ay, (decE_on h1).1⟩ : Cv.Pt FP)
  have rR : Cv.Rep (atE (toF rx) (toF ry)) R := by rw [hR]; exact rep_at (⟨toF rx, toF ry, (decE_on h2).1⟩ : Cv.Pt FP)
  obtain ⟨q1, r1, e1⟩ := mulK_none (α := Bool) (P := P0) h3
  obtain ⟨q2, r2, e2⟩ := mulK_none (α := Bool) (P := A) hhl
  have r3 := Cv.sum_rep rR r2
  have x1 : fv P0.x = baseX := toF_lt baseX_lt
  have x2 : fv P0.y = baseY := toF_lt baseY_lt
  have x3 : fv (P0.x * P0.y) = baseX * baseY % p25 := by rw [fv_mul, x1, x2]
  have y1 : fv A.x = ax := by rw [hA]; exact toF_lt l1
  have y2 : fv A.y = ay := by rw [hA]; exact toF_lt l2
  have y3 : fv (A.x * A.y) = ax * ay % p25 := by rw [fv_mul, y1, y2]
  rw [x1, x2, x3] at e1
  rw [y1, y2, y3] at e2
  rw [bool_eq (sameE_rep (pB_rep b3) (add2_rep rR (times256 rA b4))) (sameE_rep r1 r3)]
  unfold chkN
  rw [e1, e2]
  have hs := sumK_eq (atE (toF rx) (toF ry)) q2 (fun x3 y3 z3 _ => Nat.beq (mlp (fv q1.x) z3) (mlp x3 (fv q1.z)) && Nat.beq (mlp (fv q1.y) z3) (mlp y3 (fv q1.z)))
  have z1 : fv (atE (toF rx) (toF ry)).x = rx := toF_lt l3
  have z2 : fv (atE (toF rx) (toF ry)).y = ry := toF_lt l4
  have z3 : fv (atE (toF rx) (toF ry)).z = 1 := fv_one
  have z4' : fv (atE (toF rx) (toF ry)).t = rx * ry % p25 := by
    show fv (toF rx * toF ry) = _
    rw [fv_mul, toF_lt l3, toF_lt l4]
  rw [z1, z2, z3, z4'] at hs
  rw [hs, beq_fv, beq_fv]
  unfold sameE
  rw [whole_rep r1]
  have w : wholeE (Cv.sumE FP.d (atE (toF rx) (toF ry)) q2) = Cv.sumE (toF dP) (atE (toF rx) (toF ry)) q2 := whole_rep r3
  rw [w]
theorem kAx_lt : kAx < p25 := by decide +kernel
theorem kAy_lt : kAy < p25 := by decide +kernel
theorem kRx_lt : kRx < p25 := by decide +kernel
theorem kRy_lt : kRy < p25 := by decide +kernel
theorem key_on : Cv.E (toF dP) (toF kAx) (toF kAy) = 0 := by
  have h : toF kAy * toF kAy = toF kAx * toF kAx + 1 + toF dP * toF kAx * toF kAx * toF kAy * toF kAy := by
    apply fv_inj.1
    simp only [fv_add, fv_mul, toF_lt kAx_lt, toF_lt kAy_lt, toF_lt dP_lt, fv_one]
    decide +kernel
  exact on_sum_gen _ _ _ h
theorem sig_on : Cv.E (toF dP) (toF kRx) (toF kRy) = 0 := by
  have h : toF kRy * toF kRy = toF kRx * toF kRx + 1 + toF dP * toF kRx * toF kRx * toF kRy * toF kRy := by
    apply fv_inj.1
    simp only [fv_add, fv_mul, toF_lt kRx_lt, toF_lt kRy_lt, toF_lt dP_lt, fv_one]
    decide +kernel
  exact on_sum_gen _ _ _ h
theorem key_dec : decE (byN keyL) = some (toF kAx, toF kAy) := by
  refine decE_of key_on ?_ ?_
  · rw [toF_lt kAy_lt]; decide +kernel
  · rw [toF_lt kAx_lt]; decide +kernel
theorem sig_dec : decE (byN (sigL.take 32)) = some (toF kRx, toF kRy) := by
  refine decE_of sig_on ?_ ?_
  · rw [toF_lt kRy_lt]; decide +kernel
  · rw [toF_lt kRx_lt]; decide +kernel
theorem hash1 : hashN (sigL.take 32 ++ (keyL ++ [])) = kH1 := by kernel_rfl
theorem hash2 : hashN (sigL.take 32 ++ (keyL ++ [0])) = kH2 := by kernel_rfl
theorem ver1 : verP keyL sigL [] = true := by
  rw [ver_num kAx_lt kAy_lt kRx_lt kRy_lt key_dec sig_dec (n := kN1) (h := kH1) (by decide +kernel) (by decide +kernel) hash1]
  decide +kernel
theorem ver2 : verP keyL badL [] = false := by
  rw [ver_num kAx_lt kAy_lt kRx_lt kRy_lt key_dec sig_dec (sig := badL) (n := kN2) (h := kH1) (by decide +kernel) (by decide +kernel) hash1]
  decide +kernel
theorem ver3 : verP keyL sigL [0] = false := by
  rw [ver_num kAx_lt kAy_lt kRx_lt kRy_lt key_dec sig_dec (n := kN1) (h := kH2) (by decide +kernel) (by decide +kernel) hash2]
  decide +kernel
end Go.Proofs.Ythgibibeoapfbaa
namespace Go.Proofs.Ythgibibeoapfbaa
open Go Go.Fw
attribute [local irreducible] W WX WR WO WS WSr WH WHA WG WC FSpec
attribute [local simp] WS_at_map WSr_at_map loadWP splice_full Int.natCast_inj
set_option maxRecDepth 100000 in
set_option maxHeartbeats 4000000 in
theorem fSgKnown_spec : FSpec Try.prog 92 [] [] (.tuple [.agg (keyL.map bv), .agg (sigL.map bv)]) [] := by
  refine FSpec.of_W fSgKnown_low (by simp) ?_
  simp only [initEnv]
  simp
  exact fin_W (by simp [keyL, sigL, bv])
theorem keyL_len : keyL.length = 32 := rfl
theorem sigL_len : sigL.length = 64 := rfl
theorem badL_len : badL.length = 64 := rfl
theorem sig_bad : (sigL.map bv).set 40 (.int .u8 194) = badL.map bv := by kernel_rfl
theorem sV1 : FSpec Try.prog 47 [.agg (keyL.map bv), .agg (sigL.map bv), .list 1 ⟨true, true, false⟩ []] [] (.int .i64 0) [] := by
  have h := fSgVerify_spec keyL sigL keyL_len sigL_len [] ⟨true, true, false⟩ (by decide) (by decide)
  rw [show allB [] = [] from rfl, ver1] at h
  exact h
theorem sV2 : FSpec Try.prog 47 [.agg (keyL.map bv), .agg (badL.map bv), .list 1 ⟨true, true, false⟩ []] [] (.int .i64 9) [] := by
  have h := fSgVerify_spec keyL badL keyL_len badL_len [] ⟨true, true, false⟩ (by decide) (by decide)
  rw [show allB [] = [] from rfl, ver2] at h
  exact h
theorem sV3 : FSpec Try.prog 47 [.agg (keyL.map bv), .agg (sigL.map bv), .list 1 ⟨false, true, false⟩ [.list 1 ⟨false, true, false⟩ [.int .u8 0]]] [] (.int .i64 9) [] := by
  have h := fSgVerify_spec keyL sigL keyL_len sigL_len [(⟨false, true, false⟩, [0])] ⟨false, true, false⟩ (by decide) (by decide)
  rw [show allB [((⟨false, true, false⟩ : Md), ([0] : List UInt8))] = [0] from rfl, ver3] at h
  exact h
set_option maxRecDepth 100000 in
set_option maxHeartbeats 4000000 in
theorem fSgLives_spec : FSpec Try.prog 44 [] [] (.bool true) [] := by
  have hK := fSgKnown_spec
  have h1 := sV1
  have h2 := sV2
  have h3 := sV3
  have hb := sig_bad
  have hx : bitI .xor .u8 198 4 = 194 := by kernel_rfl
  have hs1 : sigL[40]?.map bv = some (.int .u8 198) := by kernel_rfl
  have hs2 : (sigL.map bv)[40]? = some (.int .u8 198) := by kernel_rfl
  have l1 : (keyL.map bv).length = 32 := by simp [keyL_len]
  have l2 : (sigL.map bv).length = 64 := by simp [sigL_len]
  have l3 : (badL.map bv).length = 64 := by simp [badL_len]
  have t1 : (keyL.map bv).take 32 = keyL.map bv := List.take_of_length_le (by omega)
  have t2 : (sigL.map bv).take 64 = sigL.map bv := List.take_of_length_le (by omega)
  have t3 : (badL.map bv).take 64 = badL.map bv := List.take_of_length_le (by omega)
  have f1 : ∀ n, ltL n (keyL.map bv) = true := fun n => ltL_bv n _
  have f2 : ∀ n, ltL n (sigL.map bv) = true := fun n => ltL_bv n _
  have i1 : idsL (fun _ => false) (keyL.map bv) = true ∧ cleanL (keyL.map bv) = true := by simp
  have i2 : idsL (fun _ => false) (sigL.map bv) = true ∧ cleanL (sigL.map bv) = true := by simp
  have i3 : idsL (fun _ => false) (badL.map bv) = true ∧ cleanL (badL.map bv) = true := by simp
  generalize keyL.map bv = K at *
  generalize sigL.map bv = S at *
  generalize badL.map bv = B at *
  refine FSpec.of_W fSgLives_low (by simp) ?_
  simp only [initEnv]
  simp
  refine WO_callP [] rfl rfl hK (by simp [i1, i2]) (by simp) ?_
  have hat : atF S 40 = ok1 (.int .u8 198) := by simp [atF, hs2]
  simp [l1, l2, t1, t2, hat, hx, hb, t3, l3, i1, i2]
  refine WO_callP [] rfl rfl h1 (by simp [i1, i2]) (by simp) ?_
  simp [l1, l2, t1, t2, t3, l3, i1, i2]
  refine WO_callP [] rfl rfl h2 (by simp [i1, i3]) (by simp) ?_
  simp [l1, l2, t1, t2, t3, l3, i1, i2]
  refine WO_callP [] rfl rfl h3 (by simp [i1, i2]) (by simp) ?_
  simp
  exact fin_W (by simp)
end Go.Proofs.Ythgibibeoapfbaa
namespace Go.Proofs.Ythgibibeoapfbaa
open Go Go.Fw
attribute [local irreducible] W WX WR WO WS WSr WH WHA WG WC FSpec
attribute [local simp] WS_at_map WSr_at_map WS_at_arr WSr_at_arr loadWP splice_full Int.natCast_inj arr_set arr_take
set_option maxHeartbeats 2000000 in
theorem fSum3_own {m : Nat} (F : Sha m) (hm : OkM m) (hF : OkF F) (b : List UInt8) (md : Md) (hb : b.length < 2 ^ 40) : FSpec Try.prog 58 [.agg (frm F), .list 1 md (b.map bv)] [] (.slice 1 0 0 m none) [some ⟨(dgst F b).map bv, 5, false⟩] := by
  obtain ⟨sz, hsz⟩ : ∃ sz, sz = m / 8 := ⟨_, rfl⟩
  have hms : (m = 32 ∧ sz = 4) ∨ (m = 64 ∧ sz = 8) := by rcases hm with h | h <;> omega
  have e8 : (m : Int).tdiv 8 = (sz : Int) := by rw [hsz]; rfl
  obtain ⟨L, hL⟩ : ∃ L, L = b.length := ⟨_, rfl⟩
  obtain ⟨z, hz⟩ : ∃ z, z = zN (2 * m) (14 * (m / 8)) (L % (2 * m)) := ⟨_, rfl⟩
  have hzl : z < 2 * m := by rw [hz]; exact zN_lt _ _ _ (by omega)
  refine FSpec.of_W fSum3_low (by simp) ?_
  simp only [initEnv]
  simp [frm, e8, wrap64s (n := (sz : Int)) (by omega) (by omega), List.take_of_length_le]
  refine ⟨by omega, by omega, ?_⟩
  refine W_loop (X := { j : Nat // j ≤ z }) (fun j => [(1, .list 1 md (b.map bv)), (2, .ptr 0 0), (5, .int .i64 sz), (6, .slice 1 1 0 (L + 1 + j.1) none)])
    (fun j => [some ⟨frm F, 109, true⟩, some ⟨(b ++ 128 :: List.replicate j.1 0).map bv, 5, false⟩]) (fun j => z - j.1) ⟨0, by omega⟩ retPost_le ?_ ?_
  · refine cut_rw [0, 2] (by simp) rfl (by simp [hL]) ?_
    simp [frm]
  rintro ⟨j, hj⟩
  have hzj := zN_ok hm L j (by omega)
  rw [← hz, ← hsz] at hzj
  obtain ⟨w, hw⟩ : ∃ w, w = L + 1 + j := ⟨_, rfl⟩
  obtain ⟨B, hB⟩ : ∃ B, B = 16 * sz := ⟨_, rfl⟩
  obtain ⟨T, hT⟩ : ∃ T, T = 14 * sz := ⟨_, rfl⟩
  obtain ⟨v, hv⟩ : ∃ v, v = w % B := ⟨_, rfl⟩
  have e1 : IntKind.i64.wrap (16 * (sz : Int)) = (B : Int) := by rw [wrap64s (by omega) (by omega)]; omega
  have e2 : IntKind.i64.wrap (14 * (sz : Int)) = (T : Int) := by rw [wrap64s (by omega) (by omega)]; omega
  have e3 : (w : Int).tmod (B : Int) = (v : Int) := by rw [hv]; rfl
  have hvT : v = T ↔ j = z := by rw [← hzj, hv, hw, hB, hT, show 2 * m = 16 * sz by omega, Nat.add_assoc]
  simp only
  rw [← hw]
  simp [e1, e2, e3, show ¬ (B : Int) = 0 by omega, show ¬ B = 0 by omega]
  refine WC_ndec (fun h => ?_) (fun h => ?_)
  · have hjl : j < z := by omega
    simp
    refine ⟨by omega, ⟨j + 1, by omega⟩, by simp; omega, ?_⟩
    refine cut_rw [0, 2] (by simp) rfl (by simp; omega) ?_
    have hfl : (b.map bv ++ AV.int IntKind.u8 128 :: List.replicate j (AV.int IntKind.u8 0)).take w = b.map bv ++ AV.int IntKind.u8 128 :: List.replicate j (AV.int IntKind.u8 0) := List.take_of_length_le (by simp; omega)
    rw [hfl]
    simp [List.replicate_succ']
  have hjz : j = z := hvT.1 (by omega)
  obtain ⟨A0, hA0⟩ : ∃ A0, A0 = b ++ 128 :: List.replicate z 0 := ⟨_, rfl⟩
  have hA0l : A0.length = w := by rw [hA0]; simp; omega
  have hA0m : b.map bv ++ AV.int IntKind.u8 128 :: List.replicate z (AV.int IntKind.u8 0) = A0.map bv := by rw [hA0]; simp
  subst hjz
  simp [hA0m]
  refine W_loop (X := { i : Nat // i ≤ 2 * sz }) (fun i => [(1, .list 1 md (b.map bv)), (2, .ptr 0 0), (5, .int .i64 sz), (6, .slice 1 1 0 (A0.length + i.1) none), (7, .int .i64 i.1)])
    (fun i => [some ⟨frm F, 109, true⟩, some ⟨(A0 ++ lnB m L i.1).map bv, 5, false⟩]) (fun i => 2 * sz - i.1) ⟨0, by omega⟩ retPost_le ?_ ?_
  · exact cut_w (by simp [hA0l, lnB])
  rintro ⟨i, hi⟩
  have e4 : IntKind.i64.wrap (2 * (sz : Int)) = ((2 * sz : Nat) : Int) := by rw [wrap64s (by omega) (by omega)]; omega
  obtain ⟨S2, hS2⟩ : ∃ S2, S2 = 2 * sz := ⟨_, rfl⟩
  rw [← hS2] at e4
  simp only
  simp [e4]
  refine WC_dec (fun h => ?_) (fun h => ?_)
  · obtain ⟨at', hat⟩ : ∃ a, a = m / 4 - 1 - i := ⟨_, rfl⟩
    have e5 : IntKind.i64.wrap (IntKind.i64.wrap ((S2 : Int) - 1) - (i : Int)) = (at' : Int) := by
      rw [wrap64s (n := (S2 : Int) - 1) (by omega) (by omega), wrap64s (by omega) (by omega)]; omega
    have hls := lnB_succ m L i
    rw [← hat] at hls
    simp [e4, e5]
    refine WC_dec (fun g => ?_) (fun g => ?_)
    · have g' : at' < 8 := by omega
      obtain ⟨N8, hN8⟩ : ∃ N8, N8 = 8 * L := ⟨_, rfl⟩
      obtain ⟨a8, ha8⟩ : ∃ a8, a8 = 8 * at' := ⟨_, rfl⟩
      have e6 : IntKind.u64.wrap (IntKind.i64.wrap (8 * (L : Int))) = (N8 : Int) := by
        rw [wrap64s (by omega) (by omega), show 8 * (L : Int) = ((8 * L : Nat) : Int) by simp, wrapu64]; omega
      have e7 : IntKind.i64.wrap (8 * (at' : Int)) = (a8 : Int) := by rw [wrap64s (by omega) (by omega)]; omega
      have e9 : IntKind.u8.wrap (((N8 : Nat) : Int).fdiv (2 ^ min a8 64)) = ((UInt8.ofNat (N8 / 2 ^ a8)).toNat : Int) := by
        rw [show min a8 64 = a8 by omega, shr_nat, wrap8_u8]
      rw [if_pos g', ← hN8, ← ha8] at hls
      simp [← hL, e6, e7, e9, IntKind.bits, lnB_len]
      refine ⟨by omega, ⟨i + 1, by omega⟩, by simp; omega, ?_⟩
      refine cut_rw [0, 2] (by simp) rfl (by simp [Nat.add_assoc, wrap64s (n := (i : Int) + 1) (by omega) (by omega)]) ?_
      have hfl : (A0.map bv ++ (lnB m L i).map bv).take (A0.length + i) = A0.map bv ++ (lnB m L i).map bv := List.take_of_length_le (by simp [lnB_len])
      rw [hfl]
      simp [hls]
    · have g' : ¬ at' < 8 := by omega
      rw [if_neg g'] at hls
      simp [lnB_len]
      refine ⟨by omega, ⟨i + 1, by omega⟩, by simp; omega, ?_⟩
      refine cut_rw [0, 2] (by simp) rfl (by simp [Nat.add_assoc, wrap64s (n := (i : Int) + 1) (by omega) (by omega)]) ?_
      have hfl : (A0.map bv ++ (lnB m L i).map bv).take (A0.length + i) = A0.map bv ++ (lnB m L i).map bv := List.take_of_length_le (by simp [lnB_len])
      rw [hfl]
      simp [hls]
  have hi2 : i = 2 * sz := by omega
  obtain ⟨ALL, hALL⟩ : ∃ ALL, ALL = A0 ++ lnB m L (2 * sz) := ⟨_, rfl⟩
  have hAt : ALL = b ++ tailB m b.length := by
    rw [hALL, hA0, show 2 * sz = m / 4 by omega, lnB_all L hm, hz, hL]
    simp [tailB]
  have hAm : A0.map bv ++ (lnB m L (2 * sz)).map bv = ALL.map bv := by rw [hALL]; simp
  have hAl : ALL.length = A0.length + 2 * sz := by rw [hALL]; simp [lnB_len]
  have hmod := tail_mod hm b.length
  have hAl2 : ALL.length = b.length + (tailB m b.length).length := by rw [hAt]; simp
  subst hi2
  simp [hAm]
  refine W_loop (X := { i : Nat // i ≤ 8 }) (fun i => [(2, .ptr 0 0), (5, .int .i64 sz), (6, .slice 1 1 0 ALL.length none), (9, .slice 1 2 0 i.1 none), (10, .int .i64 i.1)])
    (fun i => [some ⟨frm F, 109, true⟩, some ⟨ALL.map bv, 5, false⟩, some ⟨(F.h0.ws.take i.1).map wV, 47, false⟩]) (fun i => 8 - i.1) ⟨0, by omega⟩ retPost_le ?_ ?_
  · refine cut_trans (cut_ghost 9 1 47 (by simp) rfl rfl) (cut_w ?_)
    simp [hAl]
  rintro ⟨i, hi⟩
  simp only
  simp
  refine WC_dec (fun h => ?_) (fun h => ?_)
  · have h8 : i < 8 := by omega
    simp
    refine WO_callP [] rfl rfl fStart_spec (by simp) (by simp) ?_
    have hS : ∃ x, shaS[i]? = some x := ⟨_, List.getElem?_eq_getElem (by rw [shaS_len]; exact h8)⟩
    obtain ⟨x, hx⟩ := hS
    have hk := hF.h0 i h8
    rw [List.getD_eq_getElem?_getD, hx, Option.getD_some] at hk
    have hcs := fConst3_spec F hm x
    rw [hk] at hcs
    simp [shaS_len, h8, hx, nV]
    refine WO_callP [] rfl rfl hcs (by simp) (by simp) ?_
    simp
    refine ⟨by omega, ⟨i + 1, by omega⟩, by simp; omega, ?_⟩
    refine cut_rw [0, 1, 3] (by simp) rfl (by simp [wrap64s (n := (i : Int) + 1) (by omega) (by omega)]) ?_
    rw [List.take_of_length_le (show ((F.h0.ws.map wV).take i).length ≤ i by simp; omega), ← wsm_take F.h0 h8]
    simp
  have : i = 8 := by omega
  subst this
  simp [wsm_all]
  refine WO_callP [] rfl rfl fWords_spec (by simp) (by simp) ?_
  simp
  obtain ⟨NB, hNB⟩ : ∃ NB, NB = ALL.length / (2 * m) := ⟨_, rfl⟩
  have hAN : ALL.length = 2 * m * NB := by
    have h1 := Nat.mod_add_div ALL.length (2 * m)
    rw [hAl2, hmod] at h1
    rw [hNB, hAl2]; omega
  refine W_loop (X := { n : Nat // n ≤ NB }) (fun n => [(2, .ptr 0 0), (5, .int .i64 sz), (6, .slice 1 1 0 ALL.length none), (9, .slice 1 2 0 8 none), (11, .list 1 ⟨false, false, false⟩ (shaW.map (nV .u64))), (12, .int .i64 (2 * m * n.1 : Nat))])
    (fun n => [some ⟨frm F, 109, true⟩, some ⟨ALL.map bv, 5, false⟩, some ⟨(runB F n.1 F.h0 ALL).ws.map wV, 47, false⟩]) (fun n => NB - n.1) ⟨0, by omega⟩ retPost_le ?_ ?_
  · exact cut_w (by simp [hAl, runB])
  rintro ⟨n, hn⟩
  obtain ⟨at0, hat0⟩ : ∃ a, a = 2 * m * n := ⟨_, rfl⟩
  simp only
  rw [← hat0]
  simp
  refine WC_dec (fun h => ?_) (fun h => ?_)
  · have hnN : n < NB := by
      refine Nat.lt_of_mul_lt_mul_left (a := 2 * m) ?_
      rw [← hat0, ← hAN]; omega
    have hfit : at0 + 2 * m ≤ ALL.length := by
      rw [hat0, hAN, ← Nat.mul_succ]; exact Nat.mul_le_mul_left _ hnN
    simp
    obtain ⟨bk, hbk⟩ : ∃ bk, bk = (ALL.drop at0).take (2 * m) := ⟨_, rfl⟩
    have hbkl : bk.length = 2 * m := by rw [hbk]; simp; omega
    have hR := hF.R
    refine W_loop (X := { i : Nat // i ≤ F.R }) (fun i => [(2, .ptr 0 0), (5, .int .i64 sz), (6, .slice 1 1 0 ALL.length none), (9, .slice 1 2 0 8 none), (11, .list 1 ⟨false, false, false⟩ (shaW.map (nV .u64))), (12, .int .i64 at0), (13, .slice 1 3 0 i.1 none), (14, .int .i64 i.1)])
      (fun i => [some ⟨frm F, 109, true⟩, some ⟨ALL.map bv, 5, false⟩, some ⟨(runB F n F.h0 ALL).ws.map wV, 47, false⟩, some ⟨(wL F bk i.1).map wV, 47, false⟩]) (fun i => F.R - i.1) ⟨0, by omega⟩ retPost_le ?_ ?_
    · refine cut_trans (cut_ghost 13 1 47 (by simp) rfl rfl) (cut_w ?_)
      simp [wL]
    rintro ⟨i, hi⟩
    have hwl := wL_length F bk i
    simp only
    simp [frm_R]
    refine WC_dec (fun g => ?_) (fun g => ?_)
    · have hiR : i < F.R := by omega
      simp
      have hwn : ∀ (x : BitVec m), wL F bk (i + 1) = wL F bk i ++ [x] → (wL F bk (i + 1)).map wV = (wL F bk i).map wV ++ [.int .u64 (wn x : Nat)] := by
        intro x hx; rw [hx]; simp [wV]
      have hwx : wL F bk (i + 1) = wL F bk i ++ [nextW F bk (wL F bk i) i] := rfl
      have hm64 : m ≤ 64 := by omega
      have hmd : 2 ^ m ∣ 2 ^ 64 := Nat.pow_dvd_pow 2 hm64
      have hp64 : 2 ^ m ≤ 2 ^ 64 := Nat.pow_le_pow_right (by decide) hm64
      obtain ⟨x16, a16⟩ : ∃ x, x = (wL F bk i).getD (i - 16) 0 := ⟨_, rfl⟩
      obtain ⟨x15, a15⟩ : ∃ x, x = (wL F bk i).getD (i - 15) 0 := ⟨_, rfl⟩
      obtain ⟨x7, a7⟩ : ∃ x, x = (wL F bk i).getD (i - 7) 0 := ⟨_, rfl⟩
      obtain ⟨x2, a2⟩ : ∃ x, x = (wL F bk i).getD (i - 2) 0 := ⟨_, rfl⟩
      obtain ⟨X, hX⟩ : ∃ X, X = if i < 16 then beN ((bk.drop (sz * i)).take sz) else (((wn x16 + wn (smallT F.s0 x15)) % 2 ^ 64 + wn x7) % 2 ^ 64 + wn (smallT F.s1 x2)) % 2 ^ 64 := ⟨_, rfl⟩
      have hXb : ∀ k, beN ((bk.drop (sz * i)).take k) < 256 ^ k := fun k => Nat.lt_of_lt_of_le (beN_lt _) (Nat.pow_le_pow_right (by decide) (by simp; omega))
      have h256 : 256 ^ sz = 2 ^ m := by rcases hms with ⟨h1, h2⟩ | ⟨h1, h2⟩ <;> rw [h1, h2]
      have hXl : X < 2 ^ 64 := by
        rw [hX]; split
        · have := hXb sz; omega
        · exact Nat.mod_lt _ (by decide)
      have hXm : X % 2 ^ m = wn (nextW F bk (wL F bk i) i) := by
        rw [hX]; simp only [nextW, ← a16, ← a15, ← a7, ← a2, ← hsz]
        split
        · simp only [wn, BitVec.toNat_ofNat]
        · rw [wn_add, wn_add, wn_add, Nat.mod_mod_of_dvd _ hmd, Nat.add_mod, Nat.mod_mod_of_dvd _ hmd, Nat.add_mod ((wn x16 + wn (smallT F.s0 x15)) % 2 ^ 64), Nat.mod_mod_of_dvd _ hmd]
          simp only [Nat.add_mod, Nat.mod_mod]
      refine WC_joinQ [(2, .ptr 0 0), (5, .int .i64 sz), (6, .slice 1 1 0 ALL.length none), (9, .slice 1 2 0 8 none), (11, .list 1 ⟨false, false, false⟩ (shaW.map (nV .u64))), (12, .int .i64 at0), (13, .slice 1 3 0 i none), (14, .int .i64 i), (15, .int .u64 (X : Nat))]
        [some ⟨frm F, 109, true⟩, some ⟨ALL.map bv, 5, false⟩, some ⟨(runB F n F.h0 ALL).ws.map wV, 47, false⟩, some ⟨(wL F bk i).map wV, 47, false⟩] ?_ ?_
      · have hcut := fCut3_spec F hm X hXl
        rw [hXm] at hcut
        simp
        refine WO_callP [] rfl rfl hcut (by simp) (by simp) ?_
        simp [hwl]
        refine ⟨by omega, ⟨i + 1, by omega⟩, by simp; omega, ?_⟩
        refine cut_rw [0, 1, 2, 4] (by simp) rfl (by simp [wrap64s (n := (i : Int) + 1) (by omega) (by omega)]) ?_
        rw [List.take_of_length_le (show ((wL F bk i).map wV).length ≤ i by simp [hwl]), ← hwn _ hwx]
        simp
      intro k' hk'
      refine WC_dec (fun h16 => ?_) (fun h16 => ?_)
      · have h16' : i < 16 := by omega
        rw [if_pos h16'] at hX
        simp
        refine W_loop (X := { k : Nat // k ≤ sz }) (fun k => [(2, .ptr 0 0), (5, .int .i64 sz), (6, .slice 1 1 0 ALL.length none), (9, .slice 1 2 0 8 none), (11, .list 1 ⟨false, false, false⟩ (shaW.map (nV .u64))), (12, .int .i64 at0), (13, .slice 1 3 0 i none), (14, .int .i64 i), (15, .int .u64 (beN ((bk.drop (sz * i)).take k.1) : Nat)), (16, .int .i64 k.1)])
          (fun _ => [some ⟨frm F, 109, true⟩, some ⟨ALL.map bv, 5, false⟩, some ⟨(runB F n F.h0 ALL).ws.map wV, 47, false⟩, some ⟨(wL F bk i).map wV, 47, false⟩]) (fun k => sz - k.1) ⟨0, by omega⟩ retPost_le ?_ ?_
        · exact cut_w (by simp [beN])
        rintro ⟨k, hk⟩
        simp only
        simp
        refine WC_dec (fun u => ?_) (fun u => ?_)
        · obtain ⟨p, hp⟩ : ∃ p, p = i * sz := ⟨_, rfl⟩
          have hp2 : p ≤ 15 * sz := by rw [hp]; exact Nat.mul_le_mul_right _ (by omega)
          obtain ⟨q, hq⟩ : ∃ q, q = at0 + p + k := ⟨_, rfl⟩
          have e1 : IntKind.i64.wrap ((i : Int) * (sz : Int)) = (p : Int) := by
            rw [← Int.natCast_mul, ← hp, wrap64s (by omega) (by omega)]
          have e2 : IntKind.i64.wrap ((at0 : Int) + (p : Int)) = ((at0 + p : Nat) : Int) := by rw [wrap64s (by omega) (by omega)]; omega
          have e3 : IntKind.i64.wrap (((at0 + p : Nat) : Int) + (k : Int)) = (q : Int) := by rw [wrap64s (by omega) (by omega)]; omega
          obtain ⟨ap, hap⟩ : ∃ ap, ap = at0 + p := ⟨_, rfl⟩
          rw [← hap] at e2 e3
          have hqA : q < ALL.length := by omega
          have gq : ALL[q]? = some ALL[q] := by simp
          have hs : beN ((bk.drop (sz * i)).take (k + 1)) = beN ((bk.drop (sz * i)).take k) * 256 + ALL[q].toNat := by
            have hpi : sz * i = p := by rw [hp, Nat.mul_comm]
            rw [List.take_succ_eq_append_getElem (by simp; omega), beN_snoc, List.getElem_drop]
            congr 2
            simp only [hbk, List.getElem_take, List.getElem_drop]
            congr 1
            omega
          have hx := ALL[q].toNat_lt
          have hv := hXb k
          have hv2 : 256 ^ (k + 1) ≤ 2 ^ 64 := by rw [← Nat.pow_mul 2 8 (k + 1)]; exact Nat.pow_le_pow_right (by decide) (by omega)
          rw [Nat.pow_succ] at hv2
          have ev : IntKind.u64.wrap (IntKind.u64.wrap ((beN ((bk.drop (sz * i)).take k) : Nat) * 256) + (ALL[q].toNat : Nat)) = (beN ((bk.drop (sz * i)).take (k + 1)) : Nat) := by
            rw [hs]
            generalize beN ((bk.drop (sz * i)).take k) = y at *
            rw [show ((y : Int) * 256) = ((y * 256 : Nat) : Int) by simp, wrapu64, Nat.mod_eq_of_lt (by omega), ← Int.natCast_add, wrapu64, Nat.mod_eq_of_lt (by omega)]
          simp [e1, e2, e3, gq, ev, wrap_b64]
          refine ⟨hqA, ⟨k + 1, by omega⟩, by simp; omega, ?_⟩
          exact cut_w (by simp [wrap64s (n := (k : Int) + 1) (by omega) (by omega)])
        · have : k = sz := by omega
          subst this
          simp
          rw [hX] at hk'
          exact hk'
      · have h16' : ¬ i < 16 := by omega
        rw [if_neg h16'] at hX
        obtain ⟨j16, h16e⟩ : ∃ j, j = i - 16 := ⟨_, rfl⟩
        obtain ⟨j15, h15e⟩ : ∃ j, j = i - 15 := ⟨_, rfl⟩
        obtain ⟨j7, h7e⟩ : ∃ j, j = i - 7 := ⟨_, rfl⟩
        obtain ⟨j2, h2e⟩ : ∃ j, j = i - 2 := ⟨_, rfl⟩
        have f16 : IntKind.i64.wrap ((i : Int) - 16) = (j16 : Int) := by rw [wrap64s (by omega) (by omega)]; omega
        have f15 : IntKind.i64.wrap ((i : Int) - 15) = (j15 : Int) := by rw [wrap64s (by omega) (by omega)]; omega
        have f7 : IntKind.i64.wrap ((i : Int) - 7) = (j7 : Int) := by rw [wrap64s (by omega) (by omega)]; omega
        have f2 : IntKind.i64.wrap ((i : Int) - 2) = (j2 : Int) := by rw [wrap64s (by omega) (by omega)]; omega
        have get : ∀ (j : Nat) (x : BitVec m), j < i → x = (wL F bk i).getD j 0 → (wL F bk i)[j]? = some x := by
          intro j x hj hx
          rw [hx, List.getD_eq_getElem?_getD, List.getElem?_eq_getElem (by omega)]; rfl
        have b16 := get j16 x16 (by omega) (by rw [h16e]; exact a16)
        have b15 := get j15 x15 (by omega) (by rw [h15e]; exact a15)
        have b7 := get j7 x7 (by omega) (by rw [h7e]; exact a7)
        have b2 := get j2 x2 (by omega) (by rw [h2e]; exact a2)
        have sm0 := fSmall3_spec F hm x15 F.s0 hF.s0.1 hF.s0.2.1 hF.s0.2.2
        have sm1 := fSmall3_spec F hm x2 F.s1 hF.s1.1 hF.s1.2.1 hF.s1.2.2
        have au : ∀ a c : Nat, IntKind.u64.wrap ((a : Nat) + (c : Nat)) = ((a + c) % 2 ^ 64 : Nat) := fun a c => by rw [← Int.natCast_add, wrapu64]
        have s1 := au (wn x16) (wn (smallT F.s0 x15))
        obtain ⟨y1, hy1⟩ : ∃ y, y = (wn x16 + wn (smallT F.s0 x15)) % 2 ^ 64 := ⟨_, rfl⟩
        rw [← hy1] at s1 hX
        have s2 := au y1 (wn x7)
        obtain ⟨y2, hy2⟩ : ∃ y, y = (y1 + wn x7) % 2 ^ 64 := ⟨_, rfl⟩
        rw [← hy2] at s2 hX
        have s3 := au y2 (wn (smallT F.s1 x2))
        rw [← hX] at s3
        simp [f16, f15, f7, f2, b16, b15, b7, b2, hwl, wV, frm_s0, frm_s1]
        refine ⟨by omega, by omega, by omega, by omega, ?_⟩
        refine WO_callP [] rfl rfl sm0 (by simp [tV]) (by simp [b16, b7, b2, wV, frm_s1]) ?_
        simp [s1, s2]
        refine WO_callP [] rfl rfl sm1 (by simp [tV]) (by simp [b16, b7, b2, wV, frm_s1]) ?_
        simp [s3]
        exact hk'
    have hiR : i = F.R := by omega
    subst hiR
    obtain ⟨hs, hhs⟩ : ∃ hs, hs = runB F n F.h0 ALL := ⟨_, rfl⟩
    have hcomp : runB F (n + 1) F.h0 ALL = hs.add (rnds F (wL F bk F.R) hs F.R) := by rw [runB_succ, ← hat0, ← hbk, ← hhs]; rfl
    rw [← hhs]
    simp [wsm_all]
    refine W_loop (X := { i : Nat // i ≤ F.R }) (fun i => [(2, .ptr 0 0), (5, .int .i64 sz), (6, .slice 1 1 0 ALL.length none), (9, .slice 1 2 0 8 none), (11, .list 1 ⟨false, false, false⟩ (shaW.map (nV .u64))), (12, .int .i64 at0), (13, .slice 1 3 0 F.R none), (17, .list 1 ⟨false, false, false⟩ ((rnds F (wL F bk F.R) hs i.1).ws.map wV)), (18, .int .i64 i.1)])
      (fun i => [some ⟨frm F, 109, true⟩, some ⟨ALL.map bv, 5, false⟩, some ⟨hs.ws.map wV, 47, false⟩, some ⟨(wL F bk F.R).map wV, 47, false⟩]) (fun i => F.R - i.1) ⟨0, by omega⟩ retPost_le ?_ ?_
    · refine cut_trans (cut_frz 4 rfl) (cut_w ?_)
      simp [rnds, wsm_all]
    rintro ⟨i, hi⟩
    simp only
    simp [frm_R]
    refine WC_dec (fun g => ?_) (fun g => ?_)
    · have hiR : i < F.R := by omega
      have hm64 : m ≤ 64 := by omega
      obtain ⟨W, hW⟩ : ∃ W, W = wL F bk F.R := ⟨_, rfl⟩
      rw [← hW] at hwl hcomp ⊢
      obtain ⟨w, hw'⟩ : ∃ w, w = W.getD i 0 := ⟨_, rfl⟩
      have gw : W[i]? = some w := by rw [hw', List.getD_eq_getElem?_getD, List.getElem?_eq_getElem (by omega)]; rfl
      have hk80 : ∃ x, shaW[i]? = some x := ⟨_, List.getElem?_eq_getElem (by rw [shaW_len]; omega)⟩
      obtain ⟨kv, hkv⟩ := hk80
      have hkc := hF.k i hiR
      rw [List.getD_eq_getElem?_getD, hkv, Option.getD_some] at hkc
      have hcs := fConst3_spec F hm kv
      rw [hkc] at hcs
      obtain ⟨kk, hkk⟩ : ∃ kk, kk = F.k i := ⟨_, rfl⟩
      have hr : rnds F W hs (i + 1) = rnd F (F.k i) (W.getD i 0) (rnds F W hs i) := rfl
      rw [← hkk] at hcs hr
      rw [← hw'] at hr
      obtain ⟨⟨sa, sb, sc, sd, se, sf, sg, sh⟩, hS⟩ : ∃ st, st = rnds F W hs i := ⟨_, rfl⟩
      rw [← hS] at hr ⊢
      have andm : ∀ x y : BitVec m, bitI .and .u64 (wn x : Nat) (wn y : Nat) = (wn (x &&& y) : Nat) := fun x y => wx_and rfl hm64 x y
      have orm : ∀ x y : BitVec m, bitI .or .u64 (wn x : Nat) (wn y : Nat) = (wn (x ||| y) : Nat) := fun x y => wx_or rfl hm64 x y
      have au : ∀ a c : Nat, IntKind.u64.wrap ((a : Nat) + (c : Nat)) = ((a + c) % 2 ^ 64 : Nat) := fun a c => by rw [← Int.natCast_add, wrapu64]
      have hnr := not_raw se hm64
      obtain ⟨nse, hnse⟩ : ∃ v, v = (2 ^ 64 - 1) ^^^ wn se := ⟨_, rfl⟩
      have hcn := fCut3_spec F hm nse (by rw [hnse]; exact Nat.xor_lt_two_pow (by decide) (Nat.lt_of_lt_of_le (wn_lt se) (Nat.pow_le_pow_right (by decide) hm64)))
      rw [hnse, not_val hm64] at hcn
      rw [← hnse] at hcn hnr
      simp [St8.ws, wV, andm, hnr]
      refine WO_callP [] rfl rfl hcn (by simp) (by simp) ?_
      simp [andm, orm, ch_or, mj_or, frm_E, hkv, gw, nV, wV]
      obtain ⟨cE, hcE⟩ : ∃ x, x = bigT F.E se := ⟨_, rfl⟩
      obtain ⟨cA, hcA⟩ : ∃ x, x = bigT F.A sa := ⟨_, rfl⟩
      obtain ⟨ch, hch⟩ : ∃ x, x = (se &&& sf) ^^^ (~~~se &&& sg) := ⟨_, rfl⟩
      obtain ⟨mj, hmj⟩ : ∃ x, x = (sa &&& sb) ^^^ (sa &&& sc) ^^^ (sb &&& sc) := ⟨_, rfl⟩
      have hr2 : rnds F W hs (i + 1) = ⟨sh + cE + ch + kk + w + cA + mj, sa, sb, sc, sd + (sh + cE + ch + kk + w), se, sf, sg⟩ := by rw [hr, hcE, hcA, hch, hmj]; rfl
      have bE := fBig3_spec F hm se F.E hF.E.1 hF.E.2.1 hF.E.2.2
      have bA := fBig3_spec F hm sa F.A hF.A.1 hF.A.2.1 hF.A.2.2
      rw [← hcE] at bE
      rw [← hcA] at bA
      rw [← hch, ← hmj]
      have s1 := au (wn sh) (wn cE)
      obtain ⟨y1, hy1⟩ : ∃ y, y = (wn sh + wn cE) % 2 ^ 64 := ⟨_, rfl⟩
      rw [← hy1] at s1
      have s2 := au y1 (wn ch)
      obtain ⟨y2, hy2⟩ : ∃ y, y = (y1 + wn ch) % 2 ^ 64 := ⟨_, rfl⟩
      rw [← hy2] at s2
      have s3 := au y2 (wn kk)
      obtain ⟨y3, hy3⟩ : ∃ y, y = (y2 + wn kk) % 2 ^ 64 := ⟨_, rfl⟩
      rw [← hy3] at s3
      have s4 := au y3 (wn w)
      obtain ⟨y4, hy4⟩ : ∃ y, y = (y3 + wn w) % 2 ^ 64 := ⟨_, rfl⟩
      rw [← hy4] at s4
      have s5 := au (wn cA) (wn mj)
      obtain ⟨y5, hy5⟩ : ∃ y, y = (wn cA + wn mj) % 2 ^ 64 := ⟨_, rfl⟩
      rw [← hy5] at s5
      have s6 := au y4 y5
      obtain ⟨y6, hy6⟩ : ∃ y, y = (y4 + y5) % 2 ^ 64 := ⟨_, rfl⟩
      rw [← hy6] at s6
      have s7 := au (wn sd) y4
      obtain ⟨y7, hy7⟩ : ∃ y, y = (wn sd + y4) % 2 ^ 64 := ⟨_, rfl⟩
      rw [← hy7] at s7
      have c6 := fCut3_spec F hm y6 (by rw [hy6]; exact Nat.mod_lt _ (by decide))
      have c7 := fCut3_spec F hm y7 (by rw [hy7]; exact Nat.mod_lt _ (by decide))
      have v6 : y6 % 2 ^ m = wn (sh + cE + ch + kk + w + cA + mj) := by
        rw [hy6, hy5, hy4, hy3, hy2, hy1, sum_cut hm, wn_add, wn_add, wn_add, wn_add, wn_add, wn_add]
      have v7 : y7 % 2 ^ m = wn (sd + (sh + cE + ch + kk + w)) := by
        rw [hy7, hy4, hy3, hy2, hy1, sum_cut2 hm, wn_add, wn_add, wn_add, wn_add, wn_add]
      rw [v6] at c6
      rw [v7] at c7
      refine ⟨by rw [shaW_len]; omega, by omega, by omega, ?_⟩
      refine WO_callP [] rfl rfl bE (by simp [tV]) (by simp [hkv, gw, nV, wV]) ?_
      simp [s1, s2]
      refine WO_callP [] rfl rfl hcs (by simp) (by simp [hkv, gw, nV, wV]) ?_
      simp [s3, s4, frm_A]
      refine WO_callP [] rfl rfl bA (by simp [tV]) (by simp) ?_
      simp [s5, s6]
      refine WO_callP [] rfl rfl c6 (by simp) (by simp) ?_
      simp [s7]
      refine WO_callP [] rfl rfl c7 (by simp) (by simp) ?_
      simp
      refine ⟨⟨i + 1, by omega⟩, by simp; omega, ?_⟩
      exact cut_w (by simp [hr2, St8.ws, wV, wrap64s (n := (i : Int) + 1) (by omega) (by omega)])
    have hiR : i = F.R := by omega
    subst hiR
    obtain ⟨st, hst⟩ : ∃ st, st = rnds F (wL F bk F.R) hs F.R := ⟨_, rfl⟩
    rw [← hst] at hcomp ⊢
    simp
    refine W_loop (X := { i : Nat // i ≤ 8 }) (fun i => [(2, .ptr 0 0), (5, .int .i64 sz), (6, .slice 1 1 0 ALL.length none), (9, .slice 1 2 0 8 none), (11, .list 1 ⟨false, false, false⟩ (shaW.map (nV .u64))), (12, .int .i64 at0), (17, .list 1 ⟨false, false, false⟩ (st.ws.map wV)), (23, .int .i64 i.1)])
      (fun i => [some ⟨frm F, 109, true⟩, some ⟨ALL.map bv, 5, false⟩, some ⟨(hX i.1 hs st).map wV, 47, false⟩]) (fun i => 8 - i.1) ⟨0, by omega⟩ retPost_le ?_ ?_
    · exact cut_w (by simp [hX_zero])
    rintro ⟨i, hi⟩
    simp only
    simp
    refine WC_dec (fun g => ?_) (fun g => ?_)
    · have h8 : i < 8 := by omega
      have g1 := hX_at hs st h8
      have g2 := ws_at st h8
      have g3 := hX_set hs st h8
      have au : IntKind.u64.wrap ((wn (hs.at i) : Nat) + (wn (st.at i) : Nat)) = ((wn (hs.at i) + wn (st.at i)) % 2 ^ 64 : Nat) := by rw [← Int.natCast_add, wrapu64]
      obtain ⟨y, hy⟩ : ∃ y, y = (wn (hs.at i) + wn (st.at i)) % 2 ^ 64 := ⟨_, rfl⟩
      rw [← hy] at au
      have hc := fCut3_spec F hm y (by rw [hy]; exact Nat.mod_lt _ (by decide))
      rw [hy, sum_cut3 hm, ← wn_add] at hc
      rw [← hy] at hc
      obtain ⟨u, hu⟩ : ∃ u, u = wn (hs.at i + st.at i) := ⟨_, rfl⟩
      rw [← hu] at hc g3
      obtain ⟨p1, hp1⟩ : ∃ p1, p1 = hs.at i := ⟨_, rfl⟩
      obtain ⟨p2, hp2⟩ : ∃ p2, p2 = st.at i := ⟨_, rfl⟩
      rw [← hp1] at g1 au
      rw [← hp2] at g2 au
      have g1' : ∀ (h : i < (hX i hs st).length), (hX i hs st)[i] = p1 := fun h => by rw [List.getElem?_eq_getElem h] at g1; exact Option.some.inj g1
      have g2' : ∀ (h : i < st.ws.length), st.ws[i] = p2 := fun h => by rw [List.getElem?_eq_getElem h] at g2; exact Option.some.inj g2
      simp [g1', g2', wV, au, h8, g]
      refine WO_callP [] rfl rfl hc (by simp) (by simp) ?_
      simp [g3, h8, g]
      refine ⟨by omega, ⟨i + 1, by omega⟩, by simp; omega, ?_⟩
      exact cut_w (by simp [wrap64s (n := (i : Int) + 1) (by omega) (by omega)])
    have hi8 : i = 8 := by omega
    subst hi8
    have eAt : IntKind.i64.wrap ((at0 : Int) + IntKind.i64.wrap (16 * (sz : Int))) = ((2 * m * (n + 1) : Nat) : Int) := by
      rw [e1, Nat.mul_succ, ← hat0, wrap64s (by omega) (by omega)]; omega
    simp [hX_eight]
    refine ⟨⟨n + 1, by omega⟩, by simp; omega, ?_⟩
    simp at eAt
    exact cut_w (by simp [hcomp, eAt])
  have hnN : n = NB := by
    have h1 : ALL.length ≤ at0 := by omega
    rw [hAN, hat0] at h1
    have h2 := Nat.le_of_mul_le_mul_left h1 (by omega)
    omega
  subst hnN
  have hdg : dgst F b = dgB (runB F n F.h0 ALL) := by
    rw [dgst, hst, ← hAt, ← hNB]
  obtain ⟨S, hS⟩ : ∃ S, S = runB F n F.h0 ALL := ⟨_, rfl⟩
  rw [← hS] at hdg ⊢
  rw [hdg]
  simp
  refine W_loop (X := { i : Nat // i ≤ 8 }) (fun i => [(5, .int .i64 sz), (9, .slice 1 0 0 8 none), (24, .slice 1 1 0 (sz * i.1) none), (25, .int .i64 i.1)])
    (fun i => [some ⟨S.ws.map wV, 47, false⟩, some ⟨((dgB S).take (sz * i.1)).map bv, 5, false⟩]) (fun i => 8 - i.1) ⟨0, by omega⟩ retPost_le ?_ ?_
  · refine cut_trans (cut_ghost 24 1 5 (by simp) rfl rfl) ?_
    refine cut_rw [2, 3] (by simp) rfl (by simp) ?_
    simp
  rintro ⟨i, hi⟩
  simp only
  simp
  refine WC_dec (fun g => ?_) (fun g => ?_)
  · have h8 : i < 8 := by omega
    simp
    refine W_loop (X := { k : Nat // k ≤ sz }) (fun k => [(5, .int .i64 sz), (9, .slice 1 0 0 8 none), (24, .slice 1 1 0 (sz * i + k.1) none), (25, .int .i64 i), (26, .int .i64 ((sz : Int) - 1 - (k.1 : Int)))])
      (fun k => [some ⟨S.ws.map wV, 47, false⟩, some ⟨((dgB S).take (sz * i + k.1)).map bv, 5, false⟩]) (fun k => sz - k.1) ⟨0, by omega⟩ retPost_le ?_ ?_
    · exact cut_w (by simp [wrap64s (n := (sz : Int) - 1) (by omega) (by omega)])
    rintro ⟨k, hk⟩
    simp only
    simp
    refine WC_dec (fun u => ?_) (fun u => ?_)
    · have hks : k < sz := by omega
      obtain ⟨nn, hnn⟩ : ∃ nn, nn = sz - 1 - k := ⟨_, rfl⟩
      have f1 : (sz : Int) - 1 - (k : Int) = (nn : Int) := by omega
      obtain ⟨n8, hn8⟩ : ∃ n8, n8 = 8 * nn := ⟨_, rfl⟩
      have f2 : IntKind.i64.wrap (8 * (nn : Int)) = (n8 : Int) := by rw [wrap64s (by omega) (by omega)]; omega
      obtain ⟨p, hp⟩ : ∃ p, p = sz * i + k := ⟨_, rfl⟩
      have hpd : p / sz = i := by rw [hp, Nat.mul_add_div (by omega), Nat.div_eq_of_lt hks, Nat.add_zero]
      have hpm : p % sz = k := by rw [hp, Nat.mul_add_mod, Nat.mod_eq_of_lt hks]
      have hpl : p < m := by
        have : sz * i ≤ sz * 7 := Nat.mul_le_mul_left _ (by omega)
        omega
      have f3 : IntKind.u8.wrap (((wn (S.at i) : Nat) : Int).fdiv (2 ^ min n8 64)) = ((UInt8.ofNat (dgN S p)).toNat : Int) := by
        rw [show min n8 64 = n8 by omega, shr_nat, wrap8_u8]
        simp only [dgN, ← hsz, hpd, hpm, show m - 8 - 8 * k = n8 by omega]
        rw [UInt8.toNat_ofNat', UInt8.toNat_ofNat', Nat.mod_mod]
      have ht := dgB_take S hpl
      have g2 := ws_at S h8
      obtain ⟨p2, hp2⟩ : ∃ p2, p2 = S.at i := ⟨_, rfl⟩
      rw [← hp2] at g2 f3
      have g2' : ∀ (h : i < S.ws.length), S.ws[i] = p2 := fun h => by rw [List.getElem?_eq_getElem h] at g2; exact Option.some.inj g2
      have hdl : (dgB S).length = m := by simp [dgB]
      rw [← hp]
      simp [f1, f2, g2', wV, h8, f3, IntKind.bits]
      have htm := congrArg (List.map bv) ht
      simp at htm
      have f4 : IntKind.i64.wrap ((nn : Int) - 1) = (sz : Int) - 1 - ((k : Int) + 1) := by rw [wrap64s (by omega) (by omega)]; omega
      refine ⟨g, by rw [hdl]; omega, ⟨k + 1, by omega⟩, by simp; omega, ?_⟩
      refine cut_rw [0, 2] (by simp) rfl (by simp [f4, hp, Nat.add_assoc]) ?_
      rw [List.take_take, Nat.min_self, ← htm]
      simp [hp, Nat.add_assoc]
    · have : k = sz := by omega
      subst this
      simp
      refine ⟨⟨i + 1, by omega⟩, by simp; omega, ?_⟩
      exact cut_w (by simp [Nat.mul_succ, wrap64s (n := (i : Int) + 1) (by omega) (by omega)])
  have hi8 : i = 8 := by omega
  subst hi8
  have hdl : (dgB S).length = m := by simp [dgB]
  simp
  rw [List.take_of_length_le (by simp [hdl]; omega)]
  have h8m : sz * 8 = m := by omega
  rw [h8m]
  exact fin_R [1] (by simp) rfl (by simp) (H1 := [some ⟨(dgB S).map bv, 5, false⟩]) (by simp) (fin_W (by simp))
end Go.Proofs.Ythgibibeoapfbaa
namespace Go.Proofs.Ythgibibeoapfbaa
open Go Go.Fw
attribute [local irreducible] W WX WR WO WS WSr WH WHA WG WC FSpec
attribute [local simp] WS_at_map WSr_at_map WS_at_q4 WSr_at_q4 WS_at_arr WSr_at_arr loadWP splice_full Int.natCast_inj arr_set
def clampL (h : List UInt8) : List UInt8 := (h.set 0 (h.getD 0 0 &&& 248)).set 31 ((h.getD 31 0 &&& 63) + 64)
theorem clampL_len (h : List UInt8) : (clampL h).length = h.length := by simp [clampL]
theorem clamp0 (x : UInt8) : bitI .andNot .u8 (x.toNat : Nat) 7 = ((x &&& 248).toNat : Nat) := by
  have h : ∀ y : UInt8, bitI .andNot .u8 (y.toNat : Nat) 7 = ((y &&& 248).toNat : Nat) := by
    intro ⟨⟨⟨n, hn⟩⟩⟩
    revert n
    decide +kernel
  exact h x
theorem clamp31 (x : UInt8) : IntKind.u8.wrap (bitI .and .u8 (x.toNat : Nat) 63 + 64) = (((x &&& 63) + 64).toNat : Nat) := by
  have h : ∀ y : UInt8, IntKind.u8.wrap (bitI .and .u8 (y.toNat : Nat) 63 + 64) = (((y &&& 63) + 64).toNat : Nat) := by
    intro ⟨⟨⟨n, hn⟩⟩⟩
    revert n
    decide +kernel
  exact h x
set_option maxRecDepth 100000 in
set_option maxHeartbeats 4000000 in
theorem fRSgSecret_spec (s : List UInt8) (hs : s.length = 32) : FSpec Try.prog 93 [.agg (s.map bv)] [] (.tuple [.agg (q4 (byN ((clampL (dgst F64 s)).take 32))), .list 1 ⟨false, false, false⟩ (((dgst F64 s).drop 32).map bv)]) [] := by
  have hD := fSum3_own F64 (.inr rfl) okF64 s ⟨false, true, false⟩ (by omega)
  have hl : (dgst F64 s).length = 64 := by simp
  generalize dgst F64 s = D at *
  have kt : List.take 32 (s.map bv) = s.map bv := List.take_of_length_le (by simp [hs])
  have hc0 : D[0]? = some D[0] := by simp
  have hc31 : D[31]? = some D[31] := by simp
  have g0 : D.getD 0 0 = D[0] := by simp [hl]
  have g31 : D.getD 31 0 = D[31] := by simp [hl]
  have b0 := clamp0 D[0]
  have b31 := clamp31 D[31]
  have hcl : ((D.map bv).set 0 (bv (D[0] &&& 248))).set 31 (bv ((D[31] &&& 63) + 64)) = (clampL D).map bv := by
    unfold clampL; rw [g0, g31, List.map_set, List.map_set]
  have hCl := clampL_len D
  simp only [bv] at hcl
  generalize D[0] &&& 248 = c0 at *
  generalize (D[31] &&& 63) + 64 = c31 at *
  have hat : atF ((D.map bv).set 0 (.int .u8 c0.toNat)) 31 = ok1 (.int .u8 D[31].toNat) := by simp [atF, hc31, bv]
  refine FSpec.of_W fRSgSecret_low (by simp) ?_
  simp only [initEnv]
  simp [hs, kt]
  refine W_cut (cut_frz 0 rfl) ?_
  simp [hs, kt]
  refine WO_callP [] rfl rfl fLong_spec (by simp) (by simp [hs, kt]) ?_
  simp
  refine WO_callF [] (as' := [.agg (frm F64), .list 1 ⟨false, true, false⟩ (s.map bv)]) rfl (by simp) hD (by simp) (by simp) (by simp [hs, kt]) ?_
  simp [hl, hc0, b0, hat, b31, hcl]
  have hdr : List.drop 32 ((clampL D).map bv) = List.drop 32 (D.map bv) := by
    unfold clampL
    simp only [List.map_set]
    rw [List.drop_set_of_lt (by decide), List.drop_set_of_lt (by decide)]
  generalize clampL D = C at *
  have hC : C.length = 64 := by omega
  obtain ⟨T, hT⟩ : ∃ T, T = C.take 32 := ⟨_, rfl⟩
  rw [← hT]
  have hTl : T.length = 32 := by rw [hT]; simp [hC]
  refine W_loop (X := { k : Nat // k ≤ 32 }) (fun i => [(2, .ptr 1 0), (4, .slice 1 2 0 64 none), (5, .ptr 3 0), (6, .int .i64 ((i.1 : Int) - 1))])
    (fun i => [none, some ⟨q4 0, 48, true⟩, some ⟨C.map bv, 5, false⟩, some ⟨arr .u64 4 (sbN (byN T) i.1), 48, true⟩]) (fun i => i.1) ⟨32, by omega⟩ retPost_le ?_ ?_
  · exact cut_w (by simp [sbN_top, q4_zero])
  · rintro ⟨i, hi⟩
    obtain _ | k := i
    · simp [sbN_zero, hC]
      have hdt : List.take 32 (List.drop 32 (C.map bv)) = List.drop 32 (D.map bv) := by rw [← hdr]; exact List.take_of_length_le (by simp [hC])
      refine fin_F 2 rfl (fin_W ?_)
      simp [hdt, hC]
    · have hk : k < T.length := by omega
      have hk2 : k < C.length := by omega
      have hc : C[k]? = some T[k] := by
        have : T[k] = C[k] := by simp only [hT, List.getElem_take]
        rw [this]; simp
      obtain ⟨q, hq⟩ : ∃ q, q = k / 8 := ⟨_, rfl⟩
      have e1 : (k : Int).tdiv 8 = (q : Int) := by rw [hq]; rfl
      have e2 := sbN_add T k hk
      have e3 := sbN_step (byN T) k
      rw [← hq] at e2 e3
      have e4 : IntKind.u64.wrap ((T[k].toNat : Nat) : Int) = (T[k].toNat : Nat) := by rw [wrapu64]; have := UInt8.toNat_lt T[k]; congr 1; omega
      obtain ⟨v, hv⟩ : ∃ v, v = wd (byN T) q / 256 ^ (k % 8) := ⟨_, rfl⟩
      rw [← hv] at e2 e3
      have e5 : (q : Int) < 4 := by omega
      have e6 : q < 4 := by omega
      generalize T[k] = tk at *
      simp [e1, hc, e2, e4, e5, e6, hC, IntKind.bits, wrap64s (n := (q : Int)) (by omega) (by omega)]
      repeat (refine ⟨by omega, ?_⟩)
      refine ⟨⟨k, by omega⟩, by simp, ?_⟩
      exact cut_w (by simp [e3, wrap64s (n := (k : Int) - 1) (by omega) (by omega)])
end Go.Proofs.Ythgibibeoapfbaa
namespace Go.Proofs.Ythgibibeoapfbaa
open Go Go.Fw
attribute [local irreducible] W WX WR WO WS WSr WH WHA WG WC FSpec
attribute [local simp] WS_at_map WSr_at_map loadWP splice_full Int.natCast_inj q17_d q17_t q17_t0 q17_d34 q17_t51 q17_s0 q17_s17 q17_s34 hk17
def secN (s : List UInt8) : Nat := byN ((clampL (dgst F64 s)).take 32)
theorem secN_lt (s : List UInt8) : secN s < 2 ^ 256 := by
  have := byN_lt ((clampL (dgst F64 s)).take 32)
  rw [show ((clampL (dgst F64 s)).take 32).length = 32 by simp [clampL_len]] at this
  exact this
noncomputable def ptB (n : Nat) : List UInt8 := enc32 (Cv.smul n P0).x (Cv.smul n P0).y
theorem ptB_len (n : Nat) : (ptB n).length = 32 := enc32_len _ _
theorem enc_mB {n : Nat} (hn : n < 2 ^ 256) : FSpec Try.prog 28 [.agg (rpC (mB n))] [] (.agg ((ptB n).map bv)) [] := by
  have h := fRCvEncode_spec (mB n)
  rw [affR_rep (mB_rep hn)] at h
  exact h
set_option maxRecDepth 100000 in
set_option maxHeartbeats 4000000 in
theorem fRSgPublic_spec (s : List UInt8) (hs : s.length = 32) : FSpec Try.prog 45 [.agg (s.map bv)] [] (.agg ((ptB (secN s)).map bv)) [] := by
  have hS := fRSgSecret_spec s hs
  rw [show byN ((clampL (dgst F64 s)).take 32) = secN s from rfl] at hS
  have hn := secN_lt s
  have hE := enc_mB hn
  have kt : List.take 32 (s.map bv) = s.map bv := List.take_of_length_le (by simp [hs])
  have hB := fRCvBase_spec
  have hD := fRCvD_spec
  have t1 := fRCvTimes_spec ⟨toF baseX, toF baseY, 1⟩ (secN s) (toF dP)
  rw [show timesR ⟨toF baseX, toF baseY, 1⟩ (secN s) (toF dP) 256 = mB (secN s) from rfl] at t1
  have hdl : (dgst F64 s).length = 64 := by simp
  have hpl := ptB_len (secN s)
  generalize secN s = n at *
  generalize dgst F64 s = G at *
  generalize ptB n = p at *
  generalize mB n = M at *
  generalize toF baseX = bx at *
  generalize toF baseY = by' at *
  generalize toF dP = d at *
  simp only [rpC] at hB t1 hE
  simp only [List.map_drop] at hS
  have pt : List.take 32 (p.map bv) = p.map bv := List.take_of_length_le (by simp [hpl])
  refine FSpec.of_W fRSgPublic_low (by simp) ?_
  simp only [initEnv]
  simp [hs, kt]
  refine WO_callP [] rfl rfl hS (by simp) (by simp [hs]) ?_
  simp
  refine WO_callP [] rfl rfl hB (by simp) (by simp) ?_
  simp
  refine WO_callP [] rfl rfl hD (by simp) (by simp) ?_
  simp
  refine WO_callP [] rfl rfl t1 (by simp) (by simp) ?_
  simp
  refine WO_callP [] rfl rfl hE (by simp) (by simp) ?_
  simp [hpl, pt]
  exact fin_W (by simp)
end Go.Proofs.Ythgibibeoapfbaa
namespace Go.Proofs.Ythgibibeoapfbaa
open Go Go.Fw
attribute [local irreducible] W WX WR WO WS WSr WH WHA WG WC FSpec
attribute [local simp] WS_at_map WSr_at_map loadWP splice_full Int.natCast_inj
theorem p25_255 : p25 < 2 ^ 255 := by decide +kernel
theorem enc_num (y x : Nat) (hy : y < 2 ^ 255) : (y + 2 ^ 255 * (x % 2)) % 2 ^ 255 = y ∧ (x % 2 = 1 ↔ 2 ^ 255 ≤ y + 2 ^ 255 * (x % 2)) ∧ y + 2 ^ 255 * (x % 2) < 256 ^ 32 := by
  rw [show (256 : Nat) ^ 32 = 2 ^ 256 by decide]
  have h : x % 2 < 2 := Nat.mod_lt _ (by decide)
  have e : (2 : Nat) ^ 256 = 2 * 2 ^ 255 := by decide
  rw [e]
  generalize (2 : Nat) ^ 255 = Z at *
  rcases (show x % 2 = 0 ∨ x % 2 = 1 by omega) with q | q
  · rw [q, Nat.mul_zero, Nat.add_zero]
    exact ⟨Nat.mod_eq_of_lt hy, by omega, by omega⟩
  · rw [q, Nat.mul_one]
    exact ⟨by rw [Nat.add_mod_right]; exact Nat.mod_eq_of_lt hy, by omega, by omega⟩
theorem dec_enc (P : Cv.Pt FP) : decE (byN (enc32 P.x P.y)) = some (P.x, P.y) := by
  have h := enc_num (fv P.y) (fv P.x) (Nat.lt_trans (fv_lt _) p25_255)
  unfold enc32
  rw [byN_byL, Nat.mod_eq_of_lt h.2.2]
  exact decE_of P.on h.1 h.2.1
def sgS (n r k : Nat) : Nat := (r + k * (n % Lq) % Lq) % Lq
theorem sgS_smul (n r k : Nat) : Cv.smul (sgS n r k) P0 = Cv.add (Cv.smul r P0) (Cv.smul k (Cv.smul n P0)) := by
  unfold sgS
  rw [smul_mod, Cv.smul_add, smul_mod, ← Cv.smul_mul k (n % Lq), smul_mod]
theorem ver_sign (n r : Nat) (msg : List UInt8) : verP (ptB n) (ptB r ++ byL 32 (sgS n r (hashN (ptB r ++ (ptB n ++ msg))))) msg = true := by
  have hl := ptB_len r
  have hs : sgS n r (hashN (ptB r ++ (ptB n ++ msg))) < Lq := Nat.mod_lt _ (by decide)
  have hk : hashN (ptB r ++ (ptB n ++ msg)) < 2 ^ 256 := Nat.lt_trans (Nat.mod_lt _ (by decide)) (Nat.lt_trans Lq_lt (by decide))
  have hs2 : sgS n r (hashN (ptB r ++ (ptB n ++ msg))) < 2 ^ 256 := Nat.lt_trans hs (Nat.lt_trans Lq_lt (by decide))
  have e1 : (ptB r ++ byL 32 (sgS n r (hashN (ptB r ++ (ptB n ++ msg))))).take 32 = ptB r := by
    rw [List.take_append_of_le_length (by omega)]; exact List.take_of_length_le (by omega)
  have e2 : (ptB r ++ byL 32 (sgS n r (hashN (ptB r ++ (ptB n ++ msg))))).drop 32 = byL 32 (sgS n r (hashN (ptB r ++ (ptB n ++ msg)))) := by
    rw [← hl]; exact List.drop_left
  have d1 : decE (byN (ptB n)) = some ((Cv.smul n P0).x, (Cv.smul n P0).y) := dec_enc _
  have d2 : decE (byN (ptB r)) = some ((Cv.smul r P0).x, (Cv.smul r P0).y) := dec_enc _
  have e3 : byN (byL 32 (sgS n r (hashN (ptB r ++ (ptB n ++ msg))))) = sgS n r (hashN (ptB r ++ (ptB n ++ msg))) := by
    rw [byN_byL]; exact Nat.mod_eq_of_lt hs2
  unfold verP
  rw [d1]; simp only
  rw [e1, e2, d2]; simp only
  rw [e3, if_pos hs]
  exact (sameE_rep (pB_rep hs2) (add2_rep (rep_at (Cv.smul r P0)) (times256 (rep_at (Cv.smul n P0)) hk))).2 (sgS_smul n r _)
end Go.Proofs.Ythgibibeoapfbaa
namespace Go.Proofs.Ythgibibeoapfbaa
open Go Go.Fw
attribute [local irreducible] W WX WR WO WS WSr WH WHA WG WC FSpec
attribute [local simp] WS_at_map WSr_at_map WS_at_q4 WSr_at_q4 WS_at_arr WSr_at_arr loadWP splice_full Int.natCast_inj q17_d q17_t q17_t0 q17_d34 q17_t51 q17_s0 q17_s17 q17_s34 hk17
def sgR (s msg : List UInt8) : Nat := hashN ((dgst F64 s).drop 32 ++ msg)
noncomputable def sgL (s msg : List UInt8) : List UInt8 := ptB (sgR s msg) ++ byL 32 (sgS (secN s) (sgR s msg) (hashN (ptB (sgR s msg) ++ (ptB (secN s) ++ msg))))
def twoF (a b : List UInt8) (i k : Nat) : Nat := if k < 32 then (if k < i then (a.getD k 0).toNat else 0) else if k < 32 + i then (b.getD (k - 32) 0).toNat else 0
theorem twoF_zero (a b : List UInt8) : twoF a b 0 = fun _ => 0 := by
  funext k; unfold twoF; split
  · simp
  · first | rfl | rw [if_neg (by omega)]
theorem twoF_step (a b : List UInt8) (i : Nat) (h : i < 32) : upd (upd (twoF a b i) i (a.getD i 0).toNat) (32 + i) (b.getD i 0).toNat = twoF a b (i + 1) := by
  funext k
  unfold upd twoF
  by_cases h1 : k = 32 + i
  · subst h1
    rw [if_pos rfl, if_neg (by omega), if_pos (by omega), show 32 + i - 32 = i by omega]
  · rw [if_neg h1]
    by_cases h2 : k = i
    · subst h2
      rw [if_pos rfl, if_pos h, if_pos (by omega)]
    · rw [if_neg h2]
      by_cases h3 : k < 32
      · rw [if_pos h3, if_pos h3]
        by_cases h4 : k < i
        · rw [if_pos h4, if_pos (by omega)]
        · rw [if_neg h4, if_neg (by omega)]
      · rw [if_neg h3, if_neg h3]
        by_cases h4 : k < 32 + i
        · rw [if_pos h4, if_pos (by omega)]
        · rw [if_neg h4, if_neg (by omega)]
theorem twoF_all {a b : List UInt8} (ha : a.length = 32) (hb : b.length = 32) : arr .u8 64 (twoF a b 32) = (a ++ b).map bv := by
  refine List.ext_getElem (by simp [ha, hb]) fun k h1 h2 => ?_
  simp only [arr_length] at h1
  simp only [arr_getElem, List.getElem_map, bv, twoF]
  by_cases h : k < 32
  · rw [if_pos h, if_pos h, List.getElem_append_left (by omega)]
    simp [ha, h]
  · rw [if_neg h, if_pos (by omega), List.getElem_append_right (by omega)]
    have : k - 32 < b.length := by omega
    simp [ha, this]
set_option maxRecDepth 100000 in
set_option maxHeartbeats 4000000 in
theorem fRSgSign_spec (s msg : List UInt8) (md : Md) (hs : s.length = 32) (hm : msg.length < 2 ^ 39) : FSpec Try.prog 46 [.agg (s.map bv), .list 1 md (msg.map bv)] [] (.agg ((sgL s msg).map bv)) [] := by
  have hS := fRSgSecret_spec s hs
  rw [show byN ((clampL (dgst F64 s)).take 32) = secN s from rfl] at hS
  have hP := fRSgPublic_spec s hs
  have hn := secN_lt s
  have hrl : sgR s msg < Lq := Nat.mod_lt _ (by decide)
  have hr : sgR s msg < 2 ^ 256 := Nat.lt_trans hrl (Nat.lt_trans Lq_lt (by decide))
  have hH1 := fRSgHash_spec [(⟨false, false, false⟩, (dgst F64 s).drop 32), (md, msg)] ⟨false, true, false⟩ (by simp [allB]; omega) (by simp)
  rw [show allB [(⟨false, false, false⟩, (dgst F64 s).drop 32), (md, msg)] = (dgst F64 s).drop 32 ++ msg by simp [allB], show hashN ((dgst F64 s).drop 32 ++ msg) = sgR s msg from rfl] at hH1
  have hE := enc_mB hr
  have hB := fRCvBase_spec
  have hD := fRCvD_spec
  have t1 := fRCvTimes_spec ⟨toF baseX, toF baseY, 1⟩ (sgR s msg) (toF dP)
  rw [show timesR ⟨toF baseX, toF baseY, 1⟩ (sgR s msg) (toF dP) 256 = mB (sgR s msg) from rfl] at t1
  have kl := ptB_len (secN s)
  have rl := ptB_len (sgR s msg)
  have hH2 := fRSgHash_spec [(⟨false, true, false⟩, ptB (sgR s msg)), (⟨false, true, false⟩, ptB (secN s)), (md, msg)] ⟨false, true, false⟩ (by simp [allB, kl, rl]; omega) (by simp)
  rw [show allB [(⟨false, true, false⟩, ptB (sgR s msg)), (⟨false, true, false⟩, ptB (secN s)), (md, msg)] = ptB (sgR s msg) ++ (ptB (secN s) ++ msg) by simp [allB]] at hH2
  simp only [List.map_cons, List.map_nil, lsV] at hH1 hH2
  unfold sgL
  have hkl : hashN (ptB (sgR s msg) ++ (ptB (secN s) ++ msg)) < Lq := Nat.mod_lt _ (by decide)
  generalize hashN (ptB (sgR s msg) ++ (ptB (secN s) ++ msg)) = k at *
  have hb1 := fBytesL_spec (secN s)
  have hR := fRReduce_spec (byL 32 (secN s)) ⟨false, true, false⟩ (by simp [byL_len])
  rw [byN_byL, Nat.mod_eq_of_lt (show secN s < 256 ^ 32 from hn)] at hR
  have hnl : secN s % Lq < Lq := Nat.mod_lt _ (by decide)
  have hM := fMulL_spec k (secN s % Lq) hkl (Nat.lt_trans hnl (Nat.lt_trans Lq_lt (by decide)))
  have hA := fAddL_mod (sgR s msg) (k * (secN s % Lq) % Lq) hrl (Nat.mod_lt _ (by decide))
  rw [show (sgR s msg + k * (secN s % Lq) % Lq) % Lq = sgS (secN s) (sgR s msg) k from rfl] at hA
  have hb2 := fBytesL_spec (sgS (secN s) (sgR s msg) k)
  have bl1 := byL_len 32 (secN s)
  have bl2 := byL_len 32 (sgS (secN s) (sgR s msg) k)
  have hdl : (dgst F64 s).length = 64 := by simp
  generalize dgst F64 s = G at *
  generalize byL 32 (sgS (secN s) (sgR s msg) k) = b2 at *
  generalize byL 32 (secN s) = b1 at *
  generalize sgS (secN s) (sgR s msg) k = sn at *
  generalize k * (secN s % Lq) % Lq = kn at *
  generalize secN s % Lq = nl at *
  generalize mB (sgR s msg) = M at *
  generalize ptB (sgR s msg) = R at *
  generalize ptB (secN s) = K at *
  generalize secN s = n at *
  generalize sgR s msg = r at *
  generalize toF baseX = bx at *
  generalize toF baseY = by' at *
  generalize toF dP = d at *
  simp only [rpC] at hB t1 hE
  simp only [List.map_drop] at hS hH1
  have kt : List.take 32 (s.map bv) = s.map bv := List.take_of_length_le (by simp [hs])
  have Kt : List.take 32 (K.map bv) = K.map bv := List.take_of_length_le (by simp [kl])
  have Rt : List.take 32 (R.map bv) = R.map bv := List.take_of_length_le (by simp [rl])
  have b1t : List.take 32 (b1.map bv) = b1.map bv := List.take_of_length_le (by simp [bl1])
  have b2t : List.take 32 (b2.map bv) = b2.map bv := List.take_of_length_le (by simp [bl2])
  refine FSpec.of_W fRSgSign_low (by simp) ?_
  simp only [initEnv]
  simp [hs, kt]
  refine WO_callP [] rfl rfl hS (by simp) (by simp [hs]) ?_
  simp [hs, kt]
  refine WO_callP [] rfl rfl hP (by simp) (by simp [hs]) ?_
  simp [kl, Kt]
  refine WO_callP [] rfl rfl hH1 (by simp) (by simp [kl]) ?_
  simp [kl, Kt]
  refine WO_callQ rfl hB (by simp) ?_
  simp
  refine WO_callQ rfl hD (by simp) ?_
  simp
  refine WO_callQ rfl t1 (by simp) ?_
  simp
  refine WO_callQ rfl hE (by simp) ?_
  simp [rl, Rt]
  refine W_cut (cut_trans (cut_frz 5 rfl) (cut_frz 3 rfl)) ?_
  simp [rl, Rt, kl, Kt]
  refine WO_callQ rfl hH2 (by simp) ?_
  simp [rl, Rt, kl, Kt]
  refine WO_callP [] rfl rfl hb1 (by simp) (by simp [rl, kl, Rt, Kt]) ?_
  simp [bl1, b1t]
  refine W_cut (cut_frz 7 rfl) ?_
  simp [bl1, b1t]
  refine WO_callQ rfl hR (by simp) ?_
  simp
  refine WO_callQ rfl hM (by simp) ?_
  simp
  refine WO_callQ rfl hA (by simp) ?_
  simp
  refine WO_callQ rfl hb2 (by simp) ?_
  simp [bl1, b1t, bl2, b2t]
  refine W_loop (X := { i : Nat // i ≤ 32 }) (fun i => [(4, .ptr 1 0), (9, .rptr false (R.map bv)), (12, .ptr 8 0), (13, .ptr 9 0), (14, .int .i64 i.1)])
    (fun i => [none, some ⟨arr .u8 64 fun _ => 0, 25, true⟩, none, none, none, none, none, none, some ⟨b2.map bv, 23, true⟩, some ⟨arr .u8 64 (twoF R b2 i.1), 25, true⟩]) (fun i => 32 - i.1) ⟨0, by omega⟩ retPost_le ?_ ?_
  · exact cut_w (by simp [twoF_zero, arr_zero64])
  · rintro ⟨i, hi⟩
    simp only
    simp
    refine WC_dec (fun h => ?_) (fun h => ?_)
    · have c1 : R[i]? = some R[i] := by simp
      have c2 : b2[i]? = some b2[i] := by simp
      have u := twoF_step R b2 i (by omega)
      have g1 : R.getD i 0 = R[i] := by simp [List.getD_eq_getElem?_getD, c1]
      have g2 : b2.getD i 0 = b2[i] := by simp [List.getD_eq_getElem?_getD, c2]
      rw [g1, g2] at u
      have w1 : IntKind.i64.wrap (32 + (i : Int)) = ((32 + i : Nat) : Int) := by rw [wrap64s (by omega) (by omega)]; simp
      have w2 : IntKind.i64.wrap ((i : Int) + 1) = (i : Int) + 1 := wrap64s (by omega) (by omega)
      generalize R[i] = x at *
      generalize b2[i] = y at *
      simp [h, c1, c2, w1, w2, rl, bl2]
      repeat (refine ⟨by omega, ?_⟩)
      refine ⟨⟨i + 1, by omega⟩, by simp; omega, ?_⟩
      exact cut_w (by simp [show (32 + (i : Int)).toNat = 32 + i by omega, arr_set, u])
    · have : i = 32 := by omega
      subst this
      simp [twoF_all rl bl2, rl, bl2, arr_take]
      have hT : List.take 64 (R.map bv ++ b2.map bv) = R.map bv ++ b2.map bv := List.take_of_length_le (by simp [rl, bl2])
      rw [hT, hT]
      exact fin_W (by simp)
end Go.Proofs.Ythgibibeoapfbaa
namespace Go.Proofs.Ythgibibeoapfbaa
open Go.Fw
set_option maxRecDepth 100000
set_option maxHeartbeats 4000000
@[reducible] def fSgSigned2 : KCode := by
  refine (?f : lowF Try.progTables Try.f9 [(3, 1), (3, 4)] [(1000003, [2, 5, 6]), (16, [0, 1, 2, 3, 6, 7, 8, 4, 5, 9, 10, 11])] = ?c → annF false [0] [] ?c = ?k → KCode) ?h ?i
  case h => cbv; exact rfl
  case i => cbv; exact rfl
  exact fun _ _ => ?k
theorem fSgSigned2_low : lowFunc Try.prog 9 [(3, 1), (3, 4)] [(1000003, [2, 5, 6]), (16, [0, 1, 2, 3, 6, 7, 8, 4, 5, 9, 10, 11])] = some ⟨fSgSigned2.bare, [.tmp 6], 97⟩ := by kernel_rfl
end Go.Proofs.Ythgibibeoapfbaa
namespace Go.Proofs.Ythgibibeoapfbaa
open Go Go.Fw
attribute [local irreducible] W WX WR WO WS WSr WH WHA WG WC FSpec
attribute [local simp] WS_at_map WSr_at_map WS_at_arr WSr_at_arr loadWP splice_full Int.natCast_inj arr_set
theorem sgL_len (s msg : List UInt8) : (sgL s msg).length = 64 := by simp [sgL, ptB_len, byL_len]
theorem sgL_ok (s msg : List UInt8) : verP (ptB (secN s)) (sgL s msg) msg = true := ver_sign _ _ _
end Go.Proofs.Ythgibibeoapfbaa
namespace Go.Proofs.Ythgibibeoapfbaa
open Go Go.Fw
attribute [local irreducible] W WX WR WO WS WSr WH WHA WG WC FSpec
attribute [local simp] WS_at_map WSr_at_map WS_at_arr WSr_at_arr loadWP splice_full Int.natCast_inj
theorem set_bv (l : List UInt8) (i : Nat) (n : Int) (h : 0 ≤ n ∧ n < 256) : (l.map bv).set i (.int .u8 n) = (l.set i (UInt8.ofNat n.toNat)).map bv := by
  rw [List.map_set]; congr 1
  have : (UInt8.ofNat n.toNat).toNat = n.toNat := UInt8.toNat_ofNat_of_lt' (by show n.toNat < 256; omega)
  simp [bv, this]; omega
theorem xor8 (x y : Int) : 0 ≤ bitI .xor .u8 x y ∧ bitI .xor .u8 x y < 256 := by
  unfold bitI
  simp only
  rw [wrapu8]
  omega
theorem u64_nat (a : Int) : ∃ n : Nat, IntKind.u64.wrap a = (n : Int) := ⟨(a % 18446744073709551616).toNat, by
  simp [IntKind.wrap, IntKind.bits, IntKind.signed]; omega⟩
@[reducible] def sgRest : KCode := match fSgSigned2 with
  | .seq _ (.seq _ (.keep _ (.seq _ (.seq _ (.keep _ (.seq _ (.seq _ (.seq _ c)))))))) => c
  | _ => .skip
set_option maxRecDepth 100000 in
set_option maxHeartbeats 4000000 in
theorem sg_tail (K G m : List UInt8) (hK : K.length = 32) (hG : G.length = 64) (hm : m.length ≤ 200) (b0 b1 : Blk) :
    W Try.prog 0 [.c sgRest] [(7, .ptr 2 0), (8, .ptr 3 0), (10, .slice 1 4 0 m.length none)] [some b0, some b1, some ⟨K.map bv, 23, true⟩, some ⟨G.map bv, 25, true⟩, some ⟨m.map bv, 5, false⟩] (retPost [.tmp 6] (fin 0 (.bool true) [])) := by
  have Kt : List.take 32 (K.map bv) = K.map bv := List.take_of_length_le (by simp [hK])
  have Gt : List.take 64 (G.map bv) = G.map bv := List.take_of_length_le (by simp [hG])
  have mt : List.take m.length (m.map bv) = m.map bv := List.take_of_length_le (by simp)
  have hP := fSgVerify_spec K G hK hG [(⟨false, false, false⟩, m)] ⟨false, true, false⟩ (by simp [allB]; omega) (by simp)
  rw [show allB [((⟨false, false, false⟩ : Md), m)] = m by simp [allB]] at hP
  simp only [List.map_cons, List.map_nil, lsV] at hP
  have hR := fRSgVerify_spec K G m hK hG ⟨false, false, false⟩ (by omega)
  generalize verP K G m = v at *
  simp only [sgRest, fSgSigned2]
  refine W_cut (cut_frz 4 rfl) ?_
  simp [hK, hG, Kt, Gt, mt]
  refine WO_callP [] rfl rfl hP (by simp) (by simp [hK, hG, Kt, Gt, mt]) ?_
  cases v
  · simp [verI, hK, hG, Kt, Gt, mt] at hR ⊢
    refine WO_callP [] rfl rfl hR (by simp) (by simp [hK, hG, Kt, Gt, mt]) ?_
    simp
    exact fin_W (by simp)
  · simp [verI, hK, hG, Kt, Gt, mt] at hR ⊢
    refine WO_callP [] rfl rfl hR (by simp) (by simp [hK, hG, Kt, Gt, mt]) ?_
    simp
    exact fin_W (by simp)
set_option maxRecDepth 100000 in
set_option maxHeartbeats 4000000 in
theorem fSgSigned_spec (s msg : List UInt8) (hs : s.length = 32) (md : Md) (t0 t1 t2 : Int) (hlm : msg.length < 2 ^ 47) : FSpec Try.prog 9 [.agg (s.map bv), .list 1 md (msg.map bv), .agg [.int .i64 t0, .int .i64 t1, .int .i64 t2]] [] (.bool true) [] := by
  have hL := fSgLives_spec
  refine FSpec.of_W fSgSigned2_low (by simp) ?_
  simp only [initEnv]
  simp
  refine WO_callP [] rfl rfl hL (by simp) (by simp) ?_
  by_cases hl : 200 < (msg.length : Int)
  · simp [hl]
    refine WO_callP [] rfl rfl hL (by simp) (by simp) ?_
    simp
    exact fin_W (by simp)
  have kt : List.take 32 (s.map bv) = s.map bv := List.take_of_length_le (by simp [hs])
  have hP := fRSgPublic_spec s hs
  have hG := fRSgSign_spec s msg md hs (by omega)
  have kl := ptB_len (secN s)
  have gl := sgL_len s msg
  have hok := sgL_ok s msg
  have Kt : List.take 32 ((ptB (secN s)).map bv) = (ptB (secN s)).map bv := List.take_of_length_le (by simp [kl])
  have Gt : List.take 64 ((sgL s msg).map bv) = (sgL s msg).map bv := List.take_of_length_le (by simp [gl])
  have v1 := fSgVerify_spec (ptB (secN s)) (sgL s msg) kl gl [(md, msg)] ⟨false, true, false⟩ (by simp [allB]; omega) (by simp)
  rw [show allB [(md, msg)] = msg by simp [allB], hok] at v1
  simp only [List.map_cons, List.map_nil, lsV, verI, if_true] at v1
  generalize sgL s msg = G at *
  generalize ptB (secN s) = K at *
  obtain ⟨a0, w0⟩ := u64_nat t0
  obtain ⟨a1, w1⟩ := u64_nat t1
  obtain ⟨a2, w2⟩ := u64_nat t2
  simp [hl, hs, kt]
  refine WO_callQ rfl hP (by simp) ?_
  simp [hs, kt]
  refine WO_callQ rfl hG (by simp) ?_
  simp [kl, Kt, gl, Gt]
  refine ⟨⟨by omega, kt⟩, ?_⟩
  refine WO_callP [] rfl rfl v1 (by simp) (by simp [kl, Kt, gl, Gt]) ?_
  obtain ⟨k, hk, e8⟩ : ∃ k : Nat, k < 8 ∧ (a1 : Int).tmod 8 = k := ⟨a1 % 8, Nat.mod_lt _ (by decide), rfl⟩
  obtain ⟨i, hi, e64⟩ : ∃ k : Nat, k < 64 ∧ (a2 : Int).tmod 64 = k := ⟨a2 % 64, Nat.mod_lt _ (by decide), rfl⟩
  obtain ⟨j, hj, e32⟩ : ∃ k : Nat, k < 32 ∧ (a2 : Int).tmod 32 = k := ⟨a2 % 32, Nat.mod_lt _ (by decide), rfl⟩
  have wk : IntKind.i64.wrap (k : Int) = k := wrap64s (by omega) (by omega)
  have wi : IntKind.i64.wrap (i : Int) = i := wrap64s (by omega) (by omega)
  have wj : IntKind.i64.wrap (j : Int) = j := wrap64s (by omega) (by omega)
  simp [kl, Kt, gl, Gt, w0, w1, w2, e8, wk]
  refine ⟨by omega, ?_⟩
  refine WC_dec (fun h0 => ?_) (fun h0 => ?_)
  · obtain ⟨g, hg⟩ : ∃ g : UInt8, G[i]? = some g := ⟨_, List.getElem?_eq_getElem (by omega)⟩
    have hx := xor8 g.toNat (IntKind.u8.wrap (2 ^ k))
    simp [h0, w2, e64, wi, hg, gl, kl, hi]
    refine ⟨by omega, by omega, ?_⟩
    rw [set_bv _ _ _ (xor8 _ _)]
    exact sg_tail _ _ _ kl (by simp [gl]) (by omega) _ _
  · simp
    refine WC_dec (fun h1 => ?_) (fun h1 => ?_)
    · obtain ⟨g, hg⟩ : ∃ g : UInt8, K[j]? = some g := ⟨_, List.getElem?_eq_getElem (by omega)⟩
      simp [h0, h1, w2, e32, wj, hg, gl, kl, hj]
      refine ⟨by omega, by omega, ?_⟩
      rw [set_bv _ _ _ (xor8 _ _)]
      exact sg_tail _ _ _ (by simp [kl]) gl (by omega) _ _
    · simp
      refine WC_dec (fun h2 => ?_) (fun h2 => ?_)
      · simp
        exact fin_W (by simp)
      · have hl0 : 0 < msg.length := by
          rcases msg with _ | ⟨x, y⟩
          · simp at h2
          · simp
        obtain ⟨n, hn, en⟩ : ∃ n : Nat, n < msg.length ∧ (a2 : Int).tmod (msg.length : Int) = n := ⟨a2 % msg.length, Nat.mod_lt _ hl0, rfl⟩
        have wn : IntKind.i64.wrap (n : Int) = n := wrap64s (by omega) (by omega)
        have wm : IntKind.u64.wrap (msg.length : Int) = msg.length := by rw [wrapu64, Nat.mod_eq_of_lt (by omega)]
        obtain ⟨g, hg⟩ : ∃ g : UInt8, msg[n]? = some g := ⟨_, List.getElem?_eq_getElem hn⟩
        simp [w2, wm, en, wn, hg, hn]
        refine ⟨by rintro rfl; simp at hl0, by omega, ?_⟩
        rw [set_bv _ _ _ (xor8 _ _)]
        have hT := sg_tail K G (msg.set n (UInt8.ofNat (bitI BinOp.xor IntKind.u8 (g.toNat : Int) (IntKind.u8.wrap (2 ^ min k IntKind.u8.bits))).toNat)) kl gl (by simp; omega) ⟨s.map bv, 23, true⟩ ⟨[.int .i64 t0, .int .i64 t1, .int .i64 t2], 80, true⟩
        rw [List.length_set] at hT
        rw [show msg[n] = g from (List.getElem?_eq_some_iff.1 hg).2]
        exact hT
set_option maxRecDepth 100000 in
theorem fSignSigned_law : ∀ args, AllFit Try.prog 8 Try.f9.params.toList args → FSpec Try.prog 9 args [] (.bool true) [] := by
  intro args has
  rw [show Try.f9.params.toList = [23, 30, 80] from by rw [Try.params9]] at has
  obtain ⟨a, as1, rfl, h1, has⟩ := all_cons has
  obtain ⟨b, as2, rfl, h2, has⟩ := all_cons has
  obtain ⟨c, as3, rfl, h3, has⟩ := all_cons has
  cases all_nil has
  obtain ⟨l, hl, rfl⟩ := arg_bytesA Try.underlying23 Try.underlying5 h1
  obtain ⟨n1, f1, x, rfl, hx⟩ := arg_bytes Try.underlying30 Try.underlying5 (by kernel_rfl) (by kernel_rfl) h2
  obtain ⟨yss, rfl, k1, k2⟩ := arg_array Try.underlying80 h3
  match yss, k1, k2 with
  | [y0, y1, y2], _, k2 =>
    obtain ⟨m0, _, _, rfl⟩ := fit_int Try.underlying3 (k2 y0 (by simp))
    obtain ⟨m1, _, _, rfl⟩ := fit_int Try.underlying3 (k2 y1 (by simp))
    obtain ⟨m2, _, _, rfl⟩ := fit_int Try.underlying3 (k2 y2 (by simp))
    exact fSgSigned_spec l x hl _ m0 m1 m2 hx
end Go.Proofs.Ythgibibeoapfbaa
