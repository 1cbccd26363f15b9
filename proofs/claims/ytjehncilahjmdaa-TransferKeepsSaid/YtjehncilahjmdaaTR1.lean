/-
  An image that is received, kept in flash.
-/
import Derived.Test.YtjehncilahjmdaaR2
import Derived.Test.YtjehncilahjmdaaB1
set_option linter.unusedSimpArgs false
set_option linter.unnecessarySimpa false
set_option linter.unusedVariables false
set_option linter.unusedSectionVars false
namespace Go.Fw
def trNew (f : Fl) : Option Rec × Int :=
  if f.b.length < 8704 then (none, 1)
  else if (loadS f).2.2 ≠ 0 ∧ (loadS f).2.2 ≠ 15 then (none, (loadS f).2.2) else (some (loadS f).1, 0)
/-- What is remembered: the error, the flash, the record. -/
def trSave (s : Fl × Rec) (phase : UInt8) (done : Nat) (init : List UInt8) : Int × Fl × Rec :=
  let n : Rec := { s.2 with phase := phase, done := done, init := init }
  ((saveS s.1 n).2.1, (saveS s.1 n).2.2, if (saveS s.1 n).2.1 = 0 then (saveS s.1 n).1 else s.2)
def trStart (s : Fl × Rec) (init : List UInt8) : Int × Fl × Rec :=
  let a := trSave s 0 0 []
  if a.1 ≠ 0 then a else
  let c := bkClear a.2.1 18 0 16
  if c.1 ≠ 0 then (c.1, c.2, a.2.2) else trSave (c.2, a.2.2) 1 0 init
def trPut (s : Fl × Rec) (b : List UInt8) : Int × Fl × Rec :=
  if s.2.phase ≠ 1 then (16, s.1, s.2)
  else if s.2.done % 256 ≠ 0 ∨ (4096 : Int) - s.2.done < b.length then (12, s.1, s.2) else
  let c := bkClear s.1 18 (s.2.done / 256 : Nat) ((s.2.done + b.length + 255) / 256 : Nat)
  if c.1 ≠ 0 then (c.1, c.2, s.2) else
  let w := bkWrite c.2 18 (s.2.done : Nat) b
  if w.1 ≠ 0 then (w.1, w.2, s.2) else trSave (w.2, s.2) 1 (s.2.done + b.length) s.2.init
/-- Flash and record that may be. -/
structure TOk (s : Fl × Rec) : Prop where
  f : s.1.Ok
  r : s.2.Ok
theorem saveS_rec {f : Fl} {r : Rec} (hr : r.Ok) : (saveS f r).1.Ok := by
  have hw := (loadS_ok f).1.seq
  unfold saveS
  simp only
  split
  · exact rec0_ok
  split
  · exact rec0_ok
  rename_i h1 h2
  split
  · exact rec0_ok
  generalize (if (loadS f).2.2 = 15 then 0 else 1 - (loadS f).2.1) = to
  generalize encF _ = e
  split
  · exact rec0_ok
  · refine ⟨?_, hr.floor, hr.bytes, hr.sum, hr.done, hr.init⟩
    show (loadS f).1.seq + 1 < 2 ^ 32
    by_cases h : (loadS f).2.2 = 0
    · have : (loadS f).1.seq ≠ 4294967295 := fun z => h2 ⟨h, z⟩
      omega
    · have h15 : (loadS f).2.2 = 15 := by
        rcases Classical.em ((loadS f).2.2 = 15) with z | z
        · exact z
        · exact absurd ⟨h, z⟩ h1
      rw [loadS_15 f h15]; decide
theorem trSave_ok {s : Fl × Rec} (h : TOk s) {phase : UInt8} {done : Nat} {init : List UInt8} (hd : done < 2 ^ 32) (hi : init.length < 2 ^ 40) : TOk (trSave s phase done init).2 := by
  have hn : Rec.Ok { s.2 with phase := phase, done := done, init := init } := ⟨h.r.seq, h.r.floor, h.r.bytes, h.r.sum, hd, hi⟩
  refine ⟨(saveS_ok h.f _).1, ?_⟩
  show Rec.Ok (if _ then _ else _)
  split
  · exact saveS_rec hn
  · exact h.r
end Go.Fw
