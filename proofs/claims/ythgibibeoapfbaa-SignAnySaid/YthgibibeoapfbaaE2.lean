/-
  Texts that belong together.
-/
import Derived.Test.YthgibibeoapfbaaE1
import Derived.Test.YthgibibeoapfbaaF1
import Derived.Test.YthgibibeoapfbaaN1
set_option linter.unusedSimpArgs false
set_option linter.unnecessarySimpa false
set_option linter.unusedVariables false
set_option linter.unusedSectionVars false
/-
  Points are a group.
-/
namespace Go.Fw
namespace Cv
section
variable {K : Type} [Lean.Grind.CommRing K]
/-- What is known of the numbers. -/
structure Fld (K : Type) [Lean.Grind.CommRing K] where
  inv : K → K
  nz : ∀ a b : K, a * b = 0 → a = 0 ∨ b = 0
  hinv : ∀ a : K, a ≠ 0 → a * inv a = 1
  one : (1 : K) ≠ 0
  two : (2 : K) ≠ 0
  d : K
  s : K
  hs : s * s = -1
  hd : ∀ u v : K, d * u * u = v * v → u = 0
theorem Fld.compl (F : Fld K) {x1 y1 x2 y2 e : K} (h1 : E F.d x1 y1 = 0) (h2 : E F.d x2 y2 = 0) (he : e * e = 1) : F.d * x1 * x2 * y1 * y2 ≠ e := by
  intro h
  have e0 : e ≠ 0 := fun z => F.one (by grind)
  unfold E at h1 h2
  have hs := F.hs
  have k1 : F.d * (x1 * y1 * (F.s * x2 + y2)) * (x1 * y1 * (F.s * x2 + y2)) = (F.s * x1 + e * y1) * (F.s * x1 + e * y1) := by grind
  have k2 : F.d * (x1 * y1 * (F.s * x2 - y2)) * (x1 * y1 * (F.s * x2 - y2)) = (F.s * x1 - e * y1) * (F.s * x1 - e * y1) := by grind
  have q1 := F.hd _ _ k1
  have q2 := F.hd _ _ k2
  have hxy : x1 * y1 ≠ 0 := fun z => e0 (by rw [← h]; grind)
  have r1 := (F.nz _ _ q1).resolve_left hxy
  have r2 := (F.nz _ _ q2).resolve_left hxy
  have r3 : 2 * x2 = 0 := by grind
  have r4 := (F.nz _ _ r3).resolve_left F.two
  exact e0 (by rw [← h, r4]; grind)
theorem Fld.cp (F : Fld K) {x1 y1 x2 y2 : K} (h1 : E F.d x1 y1 = 0) (h2 : E F.d x2 y2 = 0) : 1 + F.d * x1 * x2 * y1 * y2 ≠ 0 ∧ 1 - F.d * x1 * x2 * y1 * y2 ≠ 0 := by
  constructor
  · intro z
    exact F.compl h1 h2 (e := -1) (by grind) (by grind)
  · intro z
    exact F.compl h1 h2 (e := 1) (by grind) (by grind)
/-- A point. -/
structure Pt (F : Fld K) where
  x : K
  y : K
  on : E F.d x y = 0
theorem Pt.eq {F : Fld K} {P Q : Pt F} (h1 : P.x = Q.x) (h2 : P.y = Q.y) : P = Q := by
  cases P; cases Q; simp only at h1 h2; subst h1 h2; rfl
theorem clU (d X Y a b u v : K) (hu : a * u = 1) (hv : b * v = 1) : E d (X * u) (Y * v) = (Y*Y*(a*a) - X*X*(b*b) - b*b*(a*a) - d*(X*X)*(Y*Y))*(u*u*v*v) := by
  unfold E; grind
/-- The sum. -/
def add {F : Fld K} (P Q : Pt F) : Pt F where
  x := (P.x*Q.y+P.y*Q.x) * F.inv (1 + F.d*P.x*Q.x*P.y*Q.y)
  y := (P.y*Q.y+P.x*Q.x) * F.inv (1 - F.d*P.x*Q.x*P.y*Q.y)
  on := by
    obtain ⟨h1, h2⟩ := F.cp P.on Q.on
    rw [clU F.d _ _ _ _ _ _ (F.hinv _ h1) (F.hinv _ h2), clN, P.on, Q.on]
    grind
def zero (F : Fld K) : Pt F := ⟨0, 1, by unfold E; grind⟩
def neg {F : Fld K} (P : Pt F) : Pt F := ⟨-P.x, P.y, by have := P.on; unfold E at *; grind⟩
theorem add_comm {F : Fld K} (P Q : Pt F) : add P Q = add Q P := by
  apply Pt.eq
  · show (P.x*Q.y+P.y*Q.x) * F.inv (1 + F.d*P.x*Q.x*P.y*Q.y) = (Q.x*P.y+Q.y*P.x) * F.inv (1 + F.d*Q.x*P.x*Q.y*P.y)
    rw [show P.x*Q.y+P.y*Q.x = Q.x*P.y+Q.y*P.x by grind, show 1 + F.d*P.x*Q.x*P.y*Q.y = 1 + F.d*Q.x*P.x*Q.y*P.y by grind]
  · show (P.y*Q.y+P.x*Q.x) * F.inv (1 - F.d*P.x*Q.x*P.y*Q.y) = (Q.y*P.y+Q.x*P.x) * F.inv (1 - F.d*Q.x*P.x*Q.y*P.y)
    rw [show P.y*Q.y+P.x*Q.x = Q.y*P.y+Q.x*P.x by grind, show 1 - F.d*P.x*Q.x*P.y*Q.y = 1 - F.d*Q.x*P.x*Q.y*P.y by grind]
theorem Fld.inv1 (F : Fld K) : F.inv 1 = 1 := by
  have := F.hinv 1 F.one
  grind
theorem add_zero {F : Fld K} (P : Pt F) : add P (zero F) = P := by
  apply Pt.eq
  · show (P.x*1+P.y*0) * F.inv (1 + F.d*P.x*0*P.y*1) = P.x
    rw [show 1 + F.d*P.x*0*P.y*1 = 1 by grind, F.inv1]; grind
  · show (P.y*1+P.x*0) * F.inv (1 - F.d*P.x*0*P.y*1) = P.y
    rw [show 1 - F.d*P.x*0*P.y*1 = 1 by grind, F.inv1]; grind
theorem zero_add {F : Fld K} (P : Pt F) : add (zero F) P = P := by rw [add_comm, add_zero]
theorem Fld.div_eq (F : Fld K) {a b c e : K} (hc : c ≠ 0) (he : e ≠ 0) (h : a * e = b * c) : a * F.inv c = b * F.inv e := by
  have h1 := F.hinv c hc
  have h2 := F.hinv e he
  grind
theorem asU (d X12 Y12 X23 Y23 a b a' b' u v u' v' x1 y1 x3 y3 : K) (hu : a * u = 1) (hv : b * v = 1) (hu' : a' * u' = 1) (hv' : b' * v' = 1) (h : (X12*b*y3+Y12*a*x3)*(a'*b'+d*x1*y1*X23*Y23) - (x1*Y23*a'+y1*X23*b')*(a*b+d*X12*Y12*x3*y3) = 0) :
    (X12*u*y3+Y12*v*x3) * (1 + d*x1*(X23*u')*y1*(Y23*v')) = (x1*(Y23*v')+y1*(X23*u')) * (1 + d*(X12*u)*x3*(Y12*v)*y3) := by
  have e1 : X12*u*y3+Y12*v*x3 = (X12*b*y3+Y12*a*x3)*(u*v) := by grind
  have e2 : 1 + d*x1*(X23*u')*y1*(Y23*v') = (a'*b'+d*x1*y1*X23*Y23)*(u'*v') := by grind
  have e3 : x1*(Y23*v')+y1*(X23*u') = (x1*Y23*a'+y1*X23*b')*(u'*v') := by grind
  have e4 : 1 + d*(X12*u)*x3*(Y12*v)*y3 = (a*b+d*X12*Y12*x3*y3)*(u*v) := by grind
  rw [e1, e2, e3, e4]
  grind
theorem asV (d X12 Y12 X23 Y23 a b a' b' u v u' v' x1 y1 x3 y3 : K) (hu : a * u = 1) (hv : b * v = 1) (hu' : a' * u' = 1) (hv' : b' * v' = 1) (h : (Y12*a*y3+X12*b*x3)*(a'*b'-d*x1*y1*X23*Y23) - (y1*Y23*a'+x1*X23*b')*(a*b-d*X12*Y12*x3*y3) = 0) :
    (Y12*v*y3+X12*u*x3) * (1 - d*x1*(X23*u')*y1*(Y23*v')) = (y1*(Y23*v')+x1*(X23*u')) * (1 - d*(X12*u)*x3*(Y12*v)*y3) := by
  have e1 : Y12*v*y3+X12*u*x3 = (Y12*a*y3+X12*b*x3)*(u*v) := by grind
  have e2 : 1 - d*x1*(X23*u')*y1*(Y23*v') = (a'*b'-d*x1*y1*X23*Y23)*(u'*v') := by grind
  have e3 : y1*(Y23*v')+x1*(X23*u') = (y1*Y23*a'+x1*X23*b')*(u'*v') := by grind
  have e4 : 1 - d*(X12*u)*x3*(Y12*v)*y3 = (a*b-d*X12*Y12*x3*y3)*(u*v) := by grind
  rw [e1, e2, e3, e4]
  grind
theorem add_assoc {F : Fld K} (P Q R : Pt F) : add (add P Q) R = add P (add Q R) := by
  obtain ⟨h1, h2⟩ := F.cp P.on Q.on
  obtain ⟨h3, h4⟩ := F.cp Q.on R.on
  obtain ⟨h5, h6⟩ := F.cp (add P Q).on R.on
  obtain ⟨h7, h8⟩ := F.cp P.on (add Q R).on
  apply Pt.eq
  · refine F.div_eq h5 h7 ?_
    refine asU F.d _ _ _ _ _ _ _ _ _ _ _ _ _ _ _ _ (F.hinv _ h1) (F.hinv _ h2) (F.hinv _ h3) (F.hinv _ h4) ?_
    rw [asX, P.on, Q.on, R.on]; grind
  · refine F.div_eq h6 h8 ?_
    refine asV F.d _ _ _ _ _ _ _ _ _ _ _ _ _ _ _ _ (F.hinv _ h1) (F.hinv _ h2) (F.hinv _ h3) (F.hinv _ h4) ?_
    rw [asY, P.on, Q.on, R.on]; grind
/-- So many times. -/
def smul {F : Fld K} : Nat → Pt F → Pt F
  | 0, _ => zero F
  | n + 1, P => add (smul n P) P
theorem smul_add {F : Fld K} (m n : Nat) (P : Pt F) : smul (m + n) P = add (smul m P) (smul n P) := by
  induction n with
  | zero => exact (add_zero _).symm
  | succ n ih => rw [Nat.add_succ, smul, ih, smul, add_assoc]
end
end Cv
end Go.Fw

/-
  Numbers modulo 2^255 - 19 as a field, and its curve.
-/
namespace Go.Fw
instance instNZ25 : NeZero p25 := ⟨Nat.ne_of_gt p25_pos⟩
abbrev Fp := Fin p25
/-- A number's value. -/
def fv (x : Fp) : Nat := x.val
theorem fv_lt (x : Fp) : fv x < p25 := x.isLt
theorem fv_inj {x y : Fp} : fv x = fv y ↔ x = y := Fin.val_inj
def toF (n : Nat) : Fp := Fin.ofNat p25 n
theorem fv_toF (n : Nat) : fv (toF n) = n % p25 := rfl
theorem toF_fv (x : Fp) : toF (fv x) = x := by apply fv_inj.1; rw [fv_toF, Nat.mod_eq_of_lt (fv_lt x)]
theorem toF_lt {n : Nat} (h : n < p25) : fv (toF n) = n := by rw [fv_toF, Nat.mod_eq_of_lt h]
theorem fv_mul (x y : Fp) : fv (x * y) = fv x * fv y % p25 := Fin.val_mul x y
theorem fv_add (x y : Fp) : fv (x + y) = (fv x + fv y) % p25 := Fin.val_add x y
theorem fv_zero : fv (0 : Fp) = 0 := rfl
theorem fv_one : fv (1 : Fp) = 1 := by
  show 1 % p25 = 1
  exact Nat.mod_eq_of_lt (by decide)
theorem fv_neg (x : Fp) : fv (-x) = negP (fv x) := by
  have h := fv_lt x
  have e : fv (-x) = (p25 - fv x) % p25 := by
    show (-x).val = _
    rw [Fin.neg_def]
    rfl
  rw [e]
  unfold negP
  split
  · rename_i q; rw [q, Nat.sub_zero, Nat.mod_self]
  · rw [Nat.mod_eq_of_lt (by omega)]
theorem fv_sub (x y : Fp) : fv (x - y) = (fv x + negP (fv y)) % p25 := by
  rw [← fv_neg, ← fv_add]
  congr 1
  exact Fin.sub_eq_add_neg x y
theorem inv_abs (p a : Nat) (hp : 2 ≤ p) (h : a ^ (p - 1) % p = 1) : a * (a ^ (p - 2) % p) % p = 1 := by
  rw [Nat.mul_mod, Nat.mod_mod, ← Nat.mul_mod, Nat.mul_comm, ← Nat.pow_succ, show (p - 2).succ = p - 1 by omega]
  exact h
theorem pow_lt (p a e : Nat) (h : 0 < p) : a ^ e % p < p := Nat.mod_lt _ h
theorem zero_pw (p e : Nat) (he : 0 < e) : 0 ^ e % p = 0 := by rw [Nat.zero_pow he, Nat.zero_mod]
theorem inv_ex (x : Fp) (h : x ≠ 0) : ∃ y : Fp, x * y = 1 ∧ fv y = fv x ^ (p25 - 2) % p25 := by
  have hd : ¬ p25 ∣ fv x := by
    intro z
    have := Nat.eq_zero_of_dvd_of_lt z (fv_lt x)
    exact h (fv_inj.1 (by rw [this, fv_zero]))
  have h1 := inv_abs p25 (fv x) (by decide) (prm_p25.fermat1 hd)
  obtain ⟨e, he⟩ : ∃ e, e = p25 - 2 := ⟨_, rfl⟩
  rw [← he] at h1 ⊢
  refine ⟨toF (fv x ^ e % p25), ?_, toF_lt (pow_lt _ _ _ p25_pos)⟩
  apply fv_inj.1
  rw [fv_mul, toF_lt (pow_lt _ _ _ p25_pos), fv_one]
  exact h1
open Classical in
/-- What makes 1 with a number; of 0 it is 0. -/
noncomputable def invF (x : Fp) : Fp := if h : x ≠ 0 then Classical.choose (inv_ex x h) else 0
theorem invF_mul (x : Fp) (h : x ≠ 0) : x * invF x = 1 := by
  unfold invF
  rw [dif_pos h]
  exact (Classical.choose_spec (inv_ex x h)).1
theorem fv_invF (x : Fp) : fv (invF x) = fv x ^ (p25 - 2) % p25 := by
  unfold invF
  split
  · rename_i h
    exact (Classical.choose_spec (inv_ex x h)).2
  · rename_i h
    have h0 : x = 0 := Classical.not_not.1 h
    obtain ⟨e, he⟩ : ∃ e, e = p25 - 2 := ⟨_, rfl⟩
    have hpos : 0 < e := by rw [he]; decide
    rw [← he, h0, fv_zero, zero_pw _ _ hpos]
def dP : Nat := 37095705934669439343138083508754565189542113879843219016388785533085940283555
theorem dP_lt : dP < p25 := by decide +kernel
theorem dP_no : isSq dP = false := by decide +kernel
theorem rootI_lt : rootI < p25 := by decide +kernel
theorem m1_fv : fv (-1 : Fp) = p25 - 1 := by
  rw [fv_neg, fv_one]
  unfold negP
  rw [if_neg (by decide)]
/-- What is known of these numbers. -/
noncomputable def FP : Cv.Fld Fp where
  inv := invF
  nz := fun a b h => by
    have : fv a * fv b % p25 = 0 := by rw [← fv_mul, h, fv_zero]
    rcases mulP_zero this with q | q
    · left; apply fv_inj.1; rw [fv_zero, ← q, Nat.mod_eq_of_lt (fv_lt a)]
    · right; apply fv_inj.1; rw [fv_zero, ← q, Nat.mod_eq_of_lt (fv_lt b)]
  hinv := invF_mul
  one := fun h => by
    have := congrArg fv h
    rw [fv_one, fv_zero] at this
    cases this
  two := fun h => by
    have := congrArg fv h
    rw [fv_zero] at this
    have e : fv (2 : Fp) = 2 := by
      show 2 % p25 = 2
      exact Nat.mod_eq_of_lt (by decide)
    rw [e] at this
    cases this
  d := toF dP
  s := toF rootI
  hs := by
    apply fv_inj.1
    rw [fv_mul, toF_lt rootI_lt, rootI_sq, m1_fv]
  hd := fun u v h => by
    refine Classical.byContradiction fun hu => ?_
    have hi := invF_mul u hu
    have hx : v * invF u * (v * invF u) = toF dP := by
      have e : v * invF u * (v * invF u) = v * v * (invF u * invF u) := by grind
      rw [e, ← h]
      have e2 : toF dP * u * u * (invF u * invF u) = toF dP * ((u * invF u) * (u * invF u)) := by grind
      rw [e2, hi]
      grind
    have hv := congrArg fv hx
    rw [fv_mul, toF_lt dP_lt] at hv
    have h1 := (rootF_sq (fv_lt (v * invF u))).1
    rw [hv, rootF_is dP dP_lt, dP_no] at h1
    cases h1
end Go.Fw

/-
  Points by four numbers, and by three.
-/
namespace Go.Fw
namespace Cv
section
variable {K : Type} [Lean.Grind.CommRing K]
/-- x / z, y / z, and x y / z. -/
structure EP (K : Type) where
  x : K
  y : K
  z : K
  t : K
/-- x / z and y / z. -/
structure RP (K : Type) where
  x : K
  y : K
  z : K
def sumE (d : K) (p q : EP K) : EP K :=
  let a := (p.y - p.x) * (q.y - q.x)
  let b := (p.y + p.x) * (q.y + q.x)
  let c := p.t * q.t * d * 2
  let z := p.z * q.z * 2
  ⟨(b - a) * (z - c), (z + c) * (b + a), (z - c) * (z + c), (b - a) * (b + a)⟩
def addR (d : K) (p q : RP K) : RP K :=
  let a := p.z * q.z
  let b := a * a
  let c := p.x * q.x
  let e := p.y * q.y
  let f := d * (c * e)
  let g := b - f
  let h := b + f
  let cross := (p.x + p.y) * (q.x + q.y) - c - e
  ⟨a * g * cross, a * h * (e + c), g * h⟩
structure Rep {F : Fld K} (p : EP K) (P : Pt F) : Prop where
  z : p.z ≠ 0
  x : p.x = P.x * p.z
  y : p.y = P.y * p.z
  t : p.t = P.x * P.y * p.z
structure RRep {F : Fld K} (p : RP K) (P : Pt F) : Prop where
  z : p.z ≠ 0
  x : p.x = P.x * p.z
  y : p.y = P.y * p.z
theorem Fld.mul_ne (F : Fld K) {a b : K} (ha : a ≠ 0) (hb : b ≠ 0) : a * b ≠ 0 := fun h => (F.nz _ _ h).elim ha hb
theorem tri (A B a b u v Z : K) : A * u * (B * v) * (Z * b * (Z * a)) = Z * A * (Z * B) * ((a * u) * (b * v)) := by grind
theorem tri1 (A : K) : A = A * (1 * 1) := by grind
theorem sum_rep {F : Fld K} {p q : EP K} {P Q : Pt F} (hp : Rep p P) (hq : Rep q Q) : Rep (sumE F.d p q) (add P Q) := by
  obtain ⟨c1, c2⟩ := F.cp P.on Q.on
  have i1 := F.hinv _ c1
  have i2 := F.hinv _ c2
  obtain ⟨x1, y1, z1, t1⟩ := p
  obtain ⟨x2, y2, z2, t2⟩ := q
  obtain ⟨hz1, hx1, hy1, ht1⟩ := hp
  obtain ⟨hz2, hx2, hy2, ht2⟩ := hq
  simp only at hz1 hx1 hy1 ht1 hz2 hx2 hy2 ht2
  have hzz := F.mul_ne (F.mul_ne hz1 hz2) F.two
  have eE : (y1 + x1) * (y2 + x2) - (y1 - x1) * (y2 - x2) = z1 * z2 * 2 * (P.x * Q.y + P.y * Q.x) := by grind
  have eH : (y1 + x1) * (y2 + x2) + (y1 - x1) * (y2 - x2) = z1 * z2 * 2 * (P.y * Q.y + P.x * Q.x) := by grind
  have eF : z1 * z2 * 2 - t1 * t2 * F.d * 2 = z1 * z2 * 2 * (1 - F.d * P.x * Q.x * P.y * Q.y) := by grind
  have eG : z1 * z2 * 2 + t1 * t2 * F.d * 2 = z1 * z2 * 2 * (1 + F.d * P.x * Q.x * P.y * Q.y) := by grind
  have hF := F.mul_ne hzz c2
  have hG := F.mul_ne hzz c1
  rw [← eF] at hF
  rw [← eG] at hG
  refine ⟨F.mul_ne hF hG, ?_, ?_, ?_⟩
  · show ((y1 + x1) * (y2 + x2) - (y1 - x1) * (y2 - x2)) * (z1 * z2 * 2 - t1 * t2 * F.d * 2) = (P.x*Q.y+P.y*Q.x) * F.inv (1 + F.d*P.x*Q.x*P.y*Q.y) * ((z1 * z2 * 2 - t1 * t2 * F.d * 2) * (z1 * z2 * 2 + t1 * t2 * F.d * 2))
    rw [eE, eF, eG]; grind
  · show (z1 * z2 * 2 + t1 * t2 * F.d * 2) * ((y1 + x1) * (y2 + x2) + (y1 - x1) * (y2 - x2)) = (P.y*Q.y+P.x*Q.x) * F.inv (1 - F.d*P.x*Q.x*P.y*Q.y) * ((z1 * z2 * 2 - t1 * t2 * F.d * 2) * (z1 * z2 * 2 + t1 * t2 * F.d * 2))
    rw [eH, eF, eG]; grind
  · show ((y1 + x1) * (y2 + x2) - (y1 - x1) * (y2 - x2)) * ((y1 + x1) * (y2 + x2) + (y1 - x1) * (y2 - x2)) = (P.x*Q.y+P.y*Q.x) * F.inv (1 + F.d*P.x*Q.x*P.y*Q.y) * ((P.y*Q.y+P.x*Q.x) * F.inv (1 - F.d*P.x*Q.x*P.y*Q.y)) * ((z1 * z2 * 2 - t1 * t2 * F.d * 2) * (z1 * z2 * 2 + t1 * t2 * F.d * 2))
    rw [eE, eH, eF, eG]
    generalize F.inv (1 + F.d*P.x*Q.x*P.y*Q.y) = u at *
    generalize F.inv (1 - F.d*P.x*Q.x*P.y*Q.y) = v at *
    generalize 1 + F.d*P.x*Q.x*P.y*Q.y = a at *
    generalize 1 - F.d*P.x*Q.x*P.y*Q.y = b at *
    generalize P.x*Q.y+P.y*Q.x = A at *
    generalize P.y*Q.y+P.x*Q.x = B at *
    generalize z1 * z2 * 2 = Z at *
    rw [tri, i1, i2]
    exact tri1 _
theorem addR_rep {F : Fld K} {p q : RP K} {P Q : Pt F} (hp : RRep p P) (hq : RRep q Q) : RRep (addR F.d p q) (add P Q) := by
  obtain ⟨c1, c2⟩ := F.cp P.on Q.on
  have i1 := F.hinv _ c1
  have i2 := F.hinv _ c2
  obtain ⟨x1, y1, z1⟩ := p
  obtain ⟨x2, y2, z2⟩ := q
  obtain ⟨hz1, hx1, hy1⟩ := hp
  obtain ⟨hz2, hx2, hy2⟩ := hq
  simp only at hz1 hx1 hy1 hz2 hx2 hy2
  have hzz := F.mul_ne (F.mul_ne hz1 hz2) (F.mul_ne hz1 hz2)
  have eG : z1 * z2 * (z1 * z2) - F.d * (x1 * x2 * (y1 * y2)) = z1 * z2 * (z1 * z2) * (1 - F.d * P.x * Q.x * P.y * Q.y) := by grind
  have eH : z1 * z2 * (z1 * z2) + F.d * (x1 * x2 * (y1 * y2)) = z1 * z2 * (z1 * z2) * (1 + F.d * P.x * Q.x * P.y * Q.y) := by grind
  have eX : (x1 + y1) * (x2 + y2) - x1 * x2 - y1 * y2 = z1 * z2 * (P.x * Q.y + P.y * Q.x) := by grind
  have eY : y1 * y2 + x1 * x2 = z1 * z2 * (P.y * Q.y + P.x * Q.x) := by grind
  have hG := F.mul_ne hzz c2
  have hH := F.mul_ne hzz c1
  rw [← eG] at hG
  rw [← eH] at hH
  refine ⟨F.mul_ne hG hH, ?_, ?_⟩
  · show z1 * z2 * (z1 * z2 * (z1 * z2) - F.d * (x1 * x2 * (y1 * y2))) * ((x1 + y1) * (x2 + y2) - x1 * x2 - y1 * y2) = (P.x*Q.y+P.y*Q.x) * F.inv (1 + F.d*P.x*Q.x*P.y*Q.y) * ((z1 * z2 * (z1 * z2) - F.d * (x1 * x2 * (y1 * y2))) * (z1 * z2 * (z1 * z2) + F.d * (x1 * x2 * (y1 * y2))))
    rw [eX, eG, eH]
    clear eX eG eH eY hx1 hx2 hy1 hy2 hG hH
    grind
  · show z1 * z2 * (z1 * z2 * (z1 * z2) + F.d * (x1 * x2 * (y1 * y2))) * (y1 * y2 + x1 * x2) = (P.y*Q.y+P.x*Q.x) * F.inv (1 - F.d*P.x*Q.x*P.y*Q.y) * ((z1 * z2 * (z1 * z2) - F.d * (x1 * x2 * (y1 * y2))) * (z1 * z2 * (z1 * z2) + F.d * (x1 * x2 * (y1 * y2))))
    rw [eY, eG, eH]
    clear eX eG eH eY hx1 hx2 hy1 hy2 hG hH
    grind
end
end Cv
end Go.Fw

/-
  Points as bytes.
-/
namespace Go.Fw
/-- The bytes of a number below 2^256, without the highest bit, and that. -/
theorem byN_top {l : List UInt8} (hl : l.length = 32) : ∃ b, l[31]? = some b ∧ b.toNat / 128 = byN l / 2 ^ 255 ∧ byN (l.set 31 (UInt8.ofNat (b.toNat % 128))) = byN l % 2 ^ 255 := by
  have hb : l[31]? = some (l[31]'(by omega)) := List.getElem?_eq_getElem (by omega)
  obtain ⟨b, hbe⟩ : ∃ b, b = l[31]'(by omega) := ⟨_, rfl⟩
  rw [← hbe] at hb
  have h1 : l = l.take 31 ++ [b] := by
    have e1 : l.take 32 = l := List.take_of_length_le (by omega)
    rw [List.take_succ_eq_append_getElem (by omega : 31 < l.length)] at e1
    rw [hbe]; exact e1.symm
  have happ : ∀ (a : List UInt8) (c : UInt8), byN (a ++ [c]) = byN a + 256 ^ a.length * c.toNat := by
    intro a c
    induction a with
    | nil => simp [byN]
    | cons x a ih => simp only [List.cons_append, byN, ih, List.length_cons, Nat.pow_succ]; rw [Nat.mul_add, ← Nat.mul_assoc, Nat.mul_comm 256 (256 ^ a.length)]; omega
  have hlen : (l.take 31).length = 31 := by rw [List.length_take]; omega
  have hlt := byN_lt (l.take 31)
  rw [hlen] at hlt
  have hbl := b.toNat_lt
  have hN : byN l = byN (l.take 31) + 256 ^ 31 * b.toNat := by
    conv => lhs; rw [h1]
    rw [happ, hlen]
  have hset : l.set 31 (UInt8.ofNat (b.toNat % 128)) = l.take 31 ++ [UInt8.ofNat (b.toNat % 128)] := by
    conv => lhs; rw [h1]
    rw [List.set_append_right _ _ (by omega), hlen]
    rfl
  have hu : (UInt8.ofNat (b.toNat % 128)).toNat = b.toNat % 128 := by rw [UInt8.toNat_ofNat']; omega
  refine ⟨b, hb, ?_, ?_⟩
  · rw [hN]
    have e : (2 : Nat) ^ 255 = 256 ^ 31 * 128 := by decide
    rw [e, ← Nat.div_div_eq_div_mul, Nat.add_mul_div_left _ _ (Nat.pow_pos (by decide)), Nat.div_eq_of_lt hlt, Nat.zero_add]
  · rw [hset, happ, hlen, hu, hN]
    have e : (2 : Nat) ^ 255 = 256 ^ 31 * 128 := by decide
    generalize (256 : Nat) ^ 31 = T at *
    generalize byN (l.take 31) = B at *
    rw [e]
    obtain ⟨q, r, hq, hr⟩ : ∃ q r, b.toNat = 128 * q + r ∧ r < 128 := ⟨b.toNat / 128, b.toNat % 128, by omega, by omega⟩
    rw [hq, show (128 * q + r) % 128 = r by omega]
    have e3 : B + T * (128 * q + r) = B + T * r + T * 128 * q := by rw [Nat.mul_add, ← Nat.mul_assoc]; omega
    rw [e3, Nat.add_mul_mod_self_left, Nat.mod_eq_of_lt]
    have : T * r + T ≤ T * 128 := by rw [← Nat.mul_succ]; exact Nat.mul_le_mul_left _ hr
    omega
end Go.Fw
