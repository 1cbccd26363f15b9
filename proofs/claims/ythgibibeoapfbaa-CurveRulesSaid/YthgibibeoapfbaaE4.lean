/-
  Points by four numbers, and by three.
-/
import Derived.Test.YthgibibeoapfbaaE3
set_option linter.unusedSimpArgs false
set_option linter.unnecessarySimpa false
set_option linter.unusedVariables false
set_option linter.unusedSectionVars false
namespace Go.Fw
namespace Cv
section
variable {K : Type} [Lean.Grind.CommRing K]
/-- x / z, y / z, and x y / z. -/
structure EP (K : Type) where
  x : K
  y : K
  z : K
  t : K
/-- x / z and y / z. -/
structure RP (K : Type) where
  x : K
  y : K
  z : K
def sumE (d : K) (p q : EP K) : EP K :=
  let a := (p.y - p.x) * (q.y - q.x)
  let b := (p.y + p.x) * (q.y + q.x)
  let c := p.t * q.t * d * 2
  let z := p.z * q.z * 2
  ⟨(b - a) * (z - c), (z + c) * (b + a), (z - c) * (z + c), (b - a) * (b + a)⟩
structure Rep {F : Fld K} (p : EP K) (P : Pt F) : Prop where
  z : p.z ≠ 0
  x : p.x = P.x * p.z
  y : p.y = P.y * p.z
  t : p.t = P.x * P.y * p.z
structure RRep {F : Fld K} (p : RP K) (P : Pt F) : Prop where
  z : p.z ≠ 0
  x : p.x = P.x * p.z
  y : p.y = P.y * p.z
theorem Fld.mul_ne (F : Fld K) {a b : K} (ha : a ≠ 0) (hb : b ≠ 0) : a * b ≠ 0 := fun h => (F.nz _ _ h).elim ha hb
theorem tri (A B a b u v Z : K) : A * u * (B * v) * (Z * b * (Z * a)) = Z * A * (Z * B) * ((a * u) * (b * v)) := by grind
theorem tri1 (A : K) : A = A * (1 * 1) := by grind
theorem sum_rep {F : Fld K} {p q : EP K} {P Q : Pt F} (hp : Rep p P) (hq : Rep q Q) : Rep (sumE F.d p q) (add P Q) := by
  obtain ⟨c1, c2⟩ := F.cp P.on Q.on
  have i1 := F.hinv _ c1
  have i2 := F.hinv _ c2
  obtain ⟨x1, y1, z1, t1⟩ := p
  obtain ⟨x2, y2, z2, t2⟩ := q
  obtain ⟨hz1, hx1, hy1, ht1⟩ := hp
  obtain ⟨hz2, hx2, hy2, ht2⟩ := hq
  simp only at hz1 hx1 hy1 ht1 hz2 hx2 hy2 ht2
  have hzz := F.mul_ne (F.mul_ne hz1 hz2) F.two
  have eE : (y1 + x1) * (y2 + x2) - (y1 - x1) * (y2 - x2) = z1 * z2 * 2 * (P.x * Q.y + P.y * Q.x) := by grind
  have eH : (y1 + x1) * (y2 + x2) + (y1 - x1) * (y2 - x2) = z1 * z2 * 2 * (P.y * Q.y + P.x * Q.x) := by grind
  have eF : z1 * z2 * 2 - t1 * t2 * F.d * 2 = z1 * z2 * 2 * (1 - F.d * P.x * Q.x * P.y * Q.y) := by grind
  have eG : z1 * z2 * 2 + t1 * t2 * F.d * 2 = z1 * z2 * 2 * (1 + F.d * P.x * Q.x * P.y * Q.y) := by grind
  have hF := F.mul_ne hzz c2
  have hG := F.mul_ne hzz c1
  rw [← eF] at hF
  rw [← eG] at hG
  refine ⟨F.mul_ne hF hG, ?_, ?_, ?_⟩
  · show ((y1 + x1) * (y2 + x2) - (y1 - x1) * (y2 - x2)) * (z1 * z2 * 2 - t1 * t2 * F.d * 2) = (P.x*Q.y+P.y*Q.x) * F.inv (1 + F.d*P.x*Q.x*P.y*Q.y) * ((z1 * z2 * 2 - t1 * t2 * F.d * 2) * (z1 * z2 * 2 + t1 * t2 * F.d * 2))
    rw [eE, eF, eG]; grind
  · show (z1 * z2 * 2 + t1 * t2 * F.d * 2) * ((y1 + x1) * (y2 + x2) + (y1 - x1) * (y2 - x2)) = (P.y*Q.y+P.x*Q.x) * F.inv (1 - F.d*P.x*Q.x*P.y*Q.y) * ((z1 * z2 * 2 - t1 * t2 * F.d * 2) * (z1 * z2 * 2 + t1 * t2 * F.d * 2))
    rw [eH, eF, eG]; grind
  · show ((y1 + x1) * (y2 + x2) - (y1 - x1) * (y2 - x2)) * ((y1 + x1) * (y2 + x2) + (y1 - x1) * (y2 - x2)) = (P.x*Q.y+P.y*Q.x) * F.inv (1 + F.d*P.x*Q.x*P.y*Q.y) * ((P.y*Q.y+P.x*Q.x) * F.inv (1 - F.d*P.x*Q.x*P.y*Q.y)) * ((z1 * z2 * 2 - t1 * t2 * F.d * 2) * (z1 * z2 * 2 + t1 * t2 * F.d * 2))
    rw [eE, eH, eF, eG]
    generalize F.inv (1 + F.d*P.x*Q.x*P.y*Q.y) = u at *
    generalize F.inv (1 - F.d*P.x*Q.x*P.y*Q.y) = v at *
    generalize 1 + F.d*P.x*Q.x*P.y*Q.y = a at *
    generalize 1 - F.d*P.x*Q.x*P.y*Q.y = b at *
    generalize P.x*Q.y+P.y*Q.x = A at *
    generalize P.y*Q.y+P.x*Q.x = B at *
    generalize z1 * z2 * 2 = Z at *
    rw [tri, i1, i2]
    exact tri1 _
end
end Cv
end Go.Fw
