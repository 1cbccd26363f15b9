/-
  Points are a group.
-/
import Derived.Test.YthgibibeoapfbaaE1
set_option linter.unusedSimpArgs false
set_option linter.unnecessarySimpa false
set_option linter.unusedVariables false
set_option linter.unusedSectionVars false
namespace Go.Fw
namespace Cv
section
variable {K : Type} [Lean.Grind.CommRing K]
/-- What is known of the numbers. -/
structure Fld (K : Type) [Lean.Grind.CommRing K] where
  inv : K → K
  nz : ∀ a b : K, a * b = 0 → a = 0 ∨ b = 0
  hinv : ∀ a : K, a ≠ 0 → a * inv a = 1
  one : (1 : K) ≠ 0
  two : (2 : K) ≠ 0
  d : K
  s : K
  hs : s * s = -1
  hd : ∀ u v : K, d * u * u = v * v → u = 0
theorem Fld.cancel (F : Fld K) {a b c : K} (hc : c ≠ 0) (h : a * c = b * c) : a = b := by
  have h1 : (a - b) * c = 0 := by grind
  rcases F.nz _ _ h1 with q | q
  · grind
  · exact absurd q hc
theorem Fld.compl (F : Fld K) {x1 y1 x2 y2 e : K} (h1 : E F.d x1 y1 = 0) (h2 : E F.d x2 y2 = 0) (he : e * e = 1) : F.d * x1 * x2 * y1 * y2 ≠ e := by
  intro h
  have e0 : e ≠ 0 := fun z => F.one (by grind)
  unfold E at h1 h2
  have hs := F.hs
  have k1 : F.d * (x1 * y1 * (F.s * x2 + y2)) * (x1 * y1 * (F.s * x2 + y2)) = (F.s * x1 + e * y1) * (F.s * x1 + e * y1) := by grind
  have k2 : F.d * (x1 * y1 * (F.s * x2 - y2)) * (x1 * y1 * (F.s * x2 - y2)) = (F.s * x1 - e * y1) * (F.s * x1 - e * y1) := by grind
  have q1 := F.hd _ _ k1
  have q2 := F.hd _ _ k2
  have hxy : x1 * y1 ≠ 0 := fun z => e0 (by rw [← h]; grind)
  have r1 := (F.nz _ _ q1).resolve_left hxy
  have r2 := (F.nz _ _ q2).resolve_left hxy
  have r3 : 2 * x2 = 0 := by grind
  have r4 := (F.nz _ _ r3).resolve_left F.two
  exact e0 (by rw [← h, r4]; grind)
theorem Fld.cp (F : Fld K) {x1 y1 x2 y2 : K} (h1 : E F.d x1 y1 = 0) (h2 : E F.d x2 y2 = 0) : 1 + F.d * x1 * x2 * y1 * y2 ≠ 0 ∧ 1 - F.d * x1 * x2 * y1 * y2 ≠ 0 := by
  constructor
  · intro z
    exact F.compl h1 h2 (e := -1) (by grind) (by grind)
  · intro z
    exact F.compl h1 h2 (e := 1) (by grind) (by grind)
/-- A point. -/
structure Pt (F : Fld K) where
  x : K
  y : K
  on : E F.d x y = 0
theorem Pt.eq {F : Fld K} {P Q : Pt F} (h1 : P.x = Q.x) (h2 : P.y = Q.y) : P = Q := by
  cases P; cases Q; simp only at h1 h2; subst h1 h2; rfl
theorem clU (d X Y a b u v : K) (hu : a * u = 1) (hv : b * v = 1) : E d (X * u) (Y * v) = (Y*Y*(a*a) - X*X*(b*b) - b*b*(a*a) - d*(X*X)*(Y*Y))*(u*u*v*v) := by
  unfold E; grind
/-- The sum. -/
def add {F : Fld K} (P Q : Pt F) : Pt F where
  x := (P.x*Q.y+P.y*Q.x) * F.inv (1 + F.d*P.x*Q.x*P.y*Q.y)
  y := (P.y*Q.y+P.x*Q.x) * F.inv (1 - F.d*P.x*Q.x*P.y*Q.y)
  on := by
    obtain ⟨h1, h2⟩ := F.cp P.on Q.on
    rw [clU F.d _ _ _ _ _ _ (F.hinv _ h1) (F.hinv _ h2), clN, P.on, Q.on]
    grind
def zero (F : Fld K) : Pt F := ⟨0, 1, by unfold E; grind⟩
def neg {F : Fld K} (P : Pt F) : Pt F := ⟨-P.x, P.y, by have := P.on; unfold E at *; grind⟩
theorem add_comm {F : Fld K} (P Q : Pt F) : add P Q = add Q P := by
  apply Pt.eq
  · show (P.x*Q.y+P.y*Q.x) * F.inv (1 + F.d*P.x*Q.x*P.y*Q.y) = (Q.x*P.y+Q.y*P.x) * F.inv (1 + F.d*Q.x*P.x*Q.y*P.y)
    rw [show P.x*Q.y+P.y*Q.x = Q.x*P.y+Q.y*P.x by grind, show 1 + F.d*P.x*Q.x*P.y*Q.y = 1 + F.d*Q.x*P.x*Q.y*P.y by grind]
  · show (P.y*Q.y+P.x*Q.x) * F.inv (1 - F.d*P.x*Q.x*P.y*Q.y) = (Q.y*P.y+Q.x*P.x) * F.inv (1 - F.d*Q.x*P.x*Q.y*P.y)
    rw [show P.y*Q.y+P.x*Q.x = Q.y*P.y+Q.x*P.x by grind, show 1 - F.d*P.x*Q.x*P.y*Q.y = 1 - F.d*Q.x*P.x*Q.y*P.y by grind]
theorem Fld.inv1 (F : Fld K) : F.inv 1 = 1 := by
  have := F.hinv 1 F.one
  grind
theorem add_zero {F : Fld K} (P : Pt F) : add P (zero F) = P := by
  apply Pt.eq
  · show (P.x*1+P.y*0) * F.inv (1 + F.d*P.x*0*P.y*1) = P.x
    rw [show 1 + F.d*P.x*0*P.y*1 = 1 by grind, F.inv1]; grind
  · show (P.y*1+P.x*0) * F.inv (1 - F.d*P.x*0*P.y*1) = P.y
    rw [show 1 - F.d*P.x*0*P.y*1 = 1 by grind, F.inv1]; grind
theorem zero_add {F : Fld K} (P : Pt F) : add (zero F) P = P := by rw [add_comm, add_zero]
theorem add_neg {F : Fld K} (P : Pt F) : add P (neg P) = zero F := by
  have hp := P.on
  obtain ⟨h1, h2⟩ := F.cp P.on (neg P).on
  have e2 := F.hinv _ h2
  apply Pt.eq
  · show (P.x*P.y+P.y*(-P.x)) * F.inv (1 + F.d*P.x*(-P.x)*P.y*P.y) = 0
    rw [show P.x*P.y+P.y*(-P.x) = 0 by grind]; grind
  · show (P.y*P.y+P.x*(-P.x)) * F.inv (1 - F.d*P.x*(-P.x)*P.y*P.y) = 1
    have e2' : (1 - F.d*P.x*(-P.x)*P.y*P.y) * F.inv (1 - F.d*P.x*(-P.x)*P.y*P.y) = 1 := e2
    have : P.y*P.y+P.x*(-P.x) = 1 - F.d*P.x*(-P.x)*P.y*P.y := by unfold E at hp; grind
    rw [this]; exact e2'
theorem Fld.div_eq (F : Fld K) {a b c e : K} (hc : c ≠ 0) (he : e ≠ 0) (h : a * e = b * c) : a * F.inv c = b * F.inv e := by
  have h1 := F.hinv c hc
  have h2 := F.hinv e he
  grind
theorem asU (d X12 Y12 X23 Y23 a b a' b' u v u' v' x1 y1 x3 y3 : K) (hu : a * u = 1) (hv : b * v = 1) (hu' : a' * u' = 1) (hv' : b' * v' = 1) (h : (X12*b*y3+Y12*a*x3)*(a'*b'+d*x1*y1*X23*Y23) - (x1*Y23*a'+y1*X23*b')*(a*b+d*X12*Y12*x3*y3) = 0) :
    (X12*u*y3+Y12*v*x3) * (1 + d*x1*(X23*u')*y1*(Y23*v')) = (x1*(Y23*v')+y1*(X23*u')) * (1 + d*(X12*u)*x3*(Y12*v)*y3) := by
  have e1 : X12*u*y3+Y12*v*x3 = (X12*b*y3+Y12*a*x3)*(u*v) := by grind
  have e2 : 1 + d*x1*(X23*u')*y1*(Y23*v') = (a'*b'+d*x1*y1*X23*Y23)*(u'*v') := by grind
  have e3 : x1*(Y23*v')+y1*(X23*u') = (x1*Y23*a'+y1*X23*b')*(u'*v') := by grind
  have e4 : 1 + d*(X12*u)*x3*(Y12*v)*y3 = (a*b+d*X12*Y12*x3*y3)*(u*v) := by grind
  rw [e1, e2, e3, e4]
  grind
theorem asV (d X12 Y12 X23 Y23 a b a' b' u v u' v' x1 y1 x3 y3 : K) (hu : a * u = 1) (hv : b * v = 1) (hu' : a' * u' = 1) (hv' : b' * v' = 1) (h : (Y12*a*y3+X12*b*x3)*(a'*b'-d*x1*y1*X23*Y23) - (y1*Y23*a'+x1*X23*b')*(a*b-d*X12*Y12*x3*y3) = 0) :
    (Y12*v*y3+X12*u*x3) * (1 - d*x1*(X23*u')*y1*(Y23*v')) = (y1*(Y23*v')+x1*(X23*u')) * (1 - d*(X12*u)*x3*(Y12*v)*y3) := by
  have e1 : Y12*v*y3+X12*u*x3 = (Y12*a*y3+X12*b*x3)*(u*v) := by grind
  have e2 : 1 - d*x1*(X23*u')*y1*(Y23*v') = (a'*b'-d*x1*y1*X23*Y23)*(u'*v') := by grind
  have e3 : y1*(Y23*v')+x1*(X23*u') = (y1*Y23*a'+x1*X23*b')*(u'*v') := by grind
  have e4 : 1 - d*(X12*u)*x3*(Y12*v)*y3 = (a*b-d*X12*Y12*x3*y3)*(u*v) := by grind
  rw [e1, e2, e3, e4]
  grind
theorem add_assoc {F : Fld K} (P Q R : Pt F) : add (add P Q) R = add P (add Q R) := by
  obtain ⟨h1, h2⟩ := F.cp P.on Q.on
  obtain ⟨h3, h4⟩ := F.cp Q.on R.on
  obtain ⟨h5, h6⟩ := F.cp (add P Q).on R.on
  obtain ⟨h7, h8⟩ := F.cp P.on (add Q R).on
  apply Pt.eq
  · refine F.div_eq h5 h7 ?_
    refine asU F.d _ _ _ _ _ _ _ _ _ _ _ _ _ _ _ _ (F.hinv _ h1) (F.hinv _ h2) (F.hinv _ h3) (F.hinv _ h4) ?_
    rw [asX, P.on, Q.on, R.on]; grind
  · refine F.div_eq h6 h8 ?_
    refine asV F.d _ _ _ _ _ _ _ _ _ _ _ _ _ _ _ _ (F.hinv _ h1) (F.hinv _ h2) (F.hinv _ h3) (F.hinv _ h4) ?_
    rw [asY, P.on, Q.on, R.on]; grind
/-- So many times. -/
def smul {F : Fld K} : Nat → Pt F → Pt F
  | 0, _ => zero F
  | n + 1, P => add (smul n P) P
theorem smul_add {F : Fld K} (m n : Nat) (P : Pt F) : smul (m + n) P = add (smul m P) (smul n P) := by
  induction n with
  | zero => exact (add_zero _).symm
  | succ n ih => rw [Nat.add_succ, smul, ih, smul, add_assoc]
theorem smul_mul {F : Fld K} (m n : Nat) (P : Pt F) : smul m (smul n P) = smul (m * n) P := by
  induction m with
  | zero => rw [Nat.zero_mul]; rfl
  | succ m ih => rw [smul, ih, Nat.succ_mul, smul_add]
theorem smul_zero {F : Fld K} (n : Nat) : smul n (zero F) = zero F := by
  induction n with
  | zero => rfl
  | succ n ih => rw [smul, ih, add_zero]
end
end Cv
end Go.Fw
