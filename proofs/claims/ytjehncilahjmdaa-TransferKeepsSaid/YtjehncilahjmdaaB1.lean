/-
  A bank: pages of a flash, and what is written into them.
-/
import Derived.Test.YtjehncilahjmdaaL2
set_option linter.unusedSimpArgs false
set_option linter.unnecessarySimpa false
set_option linter.unusedVariables false
set_option linter.unusedSectionVars false
namespace Go.Fw
/-- Is the bank there? -/
def bkR (f : Fl) (first : Int) : Bool := decide (0 ≤ first ∧ first ≤ (f.worn.length : Int) - 16)
/-- So many pages are erased, one behind the other. -/
def clearF (first : Int) : Nat → Int → Fl → Int × Fl
  | 0, _, f => (0, f)
  | n + 1, p, f => if (eraseF f (first + p)).1 ≠ 0 then eraseF f (first + p) else clearF first n (p + 1) (eraseF f (first + p)).2
def bkClear (f : Fl) (first from_ to : Int) : Int × Fl :=
  if bkR f first = false ∨ from_ < 0 ∨ to < from_ ∨ 16 < to then (1, f) else clearF first (to - from_).toNat from_ f
/-- Bytes up to a whole word. -/
def padN (n : Nat) : Nat := (4 - n % 4) % 4
def padB (l : List UInt8) : List UInt8 := l ++ List.replicate (padN l.length) 255
def bkWrite (f : Fl) (first at_ : Int) (l : List UInt8) : Int × Fl :=
  if bkR f first = false then (1, f) else if at_ < 0 ∨ 4096 < at_ ∨ 4096 - at_ < l.length then (3, f) else progF f (first * 256 + at_) (padB l)
def bkBytes (f : Fl) (first at_ n : Int) : List UInt8 × Int :=
  if bkR f first = false then ([], 1) else if at_ < 0 ∨ n < 0 ∨ 4096 < at_ ∨ 4096 - at_ < n then ([], 3) else readF f (first * 256 + at_) n
theorem clearF_ok (first : Int) : ∀ (n : Nat) (p : Int) {f : Fl}, f.Ok → (clearF first n p f).2.Ok ∧ (clearF first n p f).2.b.length = f.b.length
  | 0, _, _, hf => ⟨hf, rfl⟩
  | n + 1, p, f, hf => by
    have h1 := eraseF_ok hf (first + p)
    have h2 := clearF_ok first n (p + 1) h1.1
    rw [clearF]
    split
    · exact h1
    · exact ⟨h2.1, h2.2.trans h1.2⟩
theorem bkClear_ok {f : Fl} (hf : f.Ok) (first a b : Int) : (bkClear f first a b).2.Ok ∧ (bkClear f first a b).2.b.length = f.b.length := by
  unfold bkClear; split
  · exact ⟨hf, rfl⟩
  · exact clearF_ok first _ _ hf
theorem bkWrite_ok {f : Fl} (hf : f.Ok) (first a : Int) (l : List UInt8) : (bkWrite f first a l).2.Ok ∧ (bkWrite f first a l).2.b.length = f.b.length := by
  unfold bkWrite; split
  · exact ⟨hf, rfl⟩
  split
  · exact ⟨hf, rfl⟩
  · exact progF_ok hf _ _
theorem padB_len (l : List UInt8) : (padB l).length = l.length + padN l.length := by simp [padB]
theorem padN_lt (n : Nat) : padN n < 4 ∧ (n + padN n) % 4 = 0 := by unfold padN; omega
end Go.Fw
