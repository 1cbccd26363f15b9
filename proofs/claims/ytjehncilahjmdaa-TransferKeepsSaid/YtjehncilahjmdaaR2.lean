/-
  A record in two pages, one of which is always whole.
-/
import Derived.Test.YtjehncilahjmdaaR1
set_option linter.unusedSimpArgs false
set_option linter.unnecessarySimpa false
set_option linter.unusedVariables false
set_option linter.unusedSectionVars false
namespace Go.Fw
/-- The record of a page. -/
def rdF (f : Fl) (page : Nat) : Rec × Int := parseR (readF f (256 * page : Nat) 160).1
/-- The newest record, and its page. -/
def newestS (f : Fl) : Option (Rec × Nat) :=
  if (rdF f 0).2 = 0 then (if (rdF f 1).2 = 0 ∧ (rdF f 0).1.seq < (rdF f 1).1.seq then some ((rdF f 1).1, 1) else some ((rdF f 0).1, 0))
  else if (rdF f 1).2 = 0 then some ((rdF f 1).1, 1) else none
def loadS (f : Fl) : Rec × Nat × Int :=
  if f.b.length < 512 then (rec0, 0, 1) else if f.off = true then (rec0, 0, 5) else
  match newestS f with
  | some (r, p) => (r, p, 0)
  | none => (rec0, 0, 15)
/-- Bytes are written into a page, behind its first word, and the page. -/
def writeS (f : Fl) (to : Nat) (b : List UInt8) : Int × Fl :=
  let x := progF f (256 * to : Nat) [0, 0, 0, 0]
  if x.1 ≠ 0 then x else
  let y := eraseF x.2 to
  if y.1 ≠ 0 then y else progF y.2 (256 * to : Nat) b
/-- A record is saved. -/
def saveS (f : Fl) (r : Rec) : Rec × Int × Fl :=
  let w := loadS f
  if w.2.2 ≠ 0 ∧ w.2.2 ≠ 15 then (rec0, w.2.2, f)
  else if w.2.2 = 0 ∧ w.1.seq = 4294967295 then (rec0, 16, f)
  else
    let n : Rec := { r with seq := w.1.seq + 1 }
    let to := if w.2.2 = 15 then 0 else 1 - w.2.1
    if (encF n).2 ≠ 0 then (rec0, (encF n).2, f)
    else
      let x := writeS f to (encF n).1
      if x.1 ≠ 0 then (rec0, x.1, x.2) else (n, 0, x.2)
theorem rdF_ok (f : Fl) (p : Nat) : (rdF f p).1.Ok := parseR_ok _
theorem loadS_ok (f : Fl) : (loadS f).1.Ok ∧ (loadS f).2.1 ≤ 1 := by
  unfold loadS
  split
  · exact ⟨rec0_ok, by decide⟩
  split
  · exact ⟨rec0_ok, by decide⟩
  have h : ∀ x, newestS f = some x → x.1.Ok ∧ x.2 ≤ 1 := by
    intro x hx
    unfold newestS at hx
    split at hx
    · split at hx
      · cases hx; exact ⟨rdF_ok f 1, Nat.le_refl 1⟩
      · cases hx; exact ⟨rdF_ok f 0, Nat.zero_le 1⟩
    · split at hx
      · cases hx; exact ⟨rdF_ok f 1, Nat.le_refl 1⟩
      · cases hx
  cases hn : newestS f with
  | none => exact ⟨rec0_ok, by decide⟩
  | some x => exact h x hn
theorem loadS_15 (f : Fl) : (loadS f).2.2 = 15 → (loadS f).1 = rec0 := by
  unfold loadS
  split
  · intro h; simp at h
  split
  · intro h; simp at h
  cases newestS f with
  | none => exact fun _ => rfl
  | some x => intro h; simp at h
theorem writeS_ok {f : Fl} (hf : f.Ok) (to : Nat) (b : List UInt8) : (writeS f to b).2.Ok ∧ (writeS f to b).2.b.length = f.b.length := by
  have h1 := progF_ok hf (256 * to : Nat) [0, 0, 0, 0]
  have h2 := eraseF_ok h1.1 to
  have h3 := progF_ok h2.1 (256 * to : Nat) b
  unfold writeS
  simp only
  split
  · exact h1
  split
  · exact ⟨h2.1, h2.2.trans h1.2⟩
  · exact ⟨h3.1, h3.2.trans (h2.2.trans h1.2)⟩
theorem saveS_ok {f : Fl} (hf : f.Ok) (r : Rec) : (saveS f r).2.2.Ok ∧ (saveS f r).2.2.b.length = f.b.length := by
  unfold saveS
  simp only
  split
  · exact ⟨hf, rfl⟩
  split
  · exact ⟨hf, rfl⟩
  split
  · exact ⟨hf, rfl⟩
  generalize (if (loadS f).2.2 = 15 then 0 else 1 - (loadS f).2.1) = to
  generalize encF _ = e
  split
  · exact writeS_ok hf _ _
  · exact writeS_ok hf _ _
end Go.Fw
