/-
  An image that is received, kept in flash.
-/
import Derived.Test.YtjehncilahjmdaaR2
import Derived.Test.YtjehncilahjmdaaB1
set_option linter.unusedSimpArgs false
set_option linter.unnecessarySimpa false
set_option linter.unusedVariables false
set_option linter.unusedSectionVars false
namespace Go.Fw
def trNew (f : Fl) : Option Rec × Int :=
  if f.b.length < 8704 then (none, 1)
  else if (loadS f).2.2 ≠ 0 ∧ (loadS f).2.2 ≠ 15 then (none, (loadS f).2.2) else (some (loadS f).1, 0)
/-- What is remembered: the error, the flash, the record. -/
def trSave (s : Fl × Rec) (phase : UInt8) (done : Nat) (init : List UInt8) : Int × Fl × Rec :=
  let n : Rec := { s.2 with phase := phase, done := done, init := init }
  ((saveS s.1 n).2.1, (saveS s.1 n).2.2, if (saveS s.1 n).2.1 = 0 then (saveS s.1 n).1 else s.2)
def trStart (s : Fl × Rec) (init : List UInt8) : Int × Fl × Rec :=
  let a := trSave s 0 0 []
  if a.1 ≠ 0 then a else
  let c := bkClear a.2.1 18 0 16
  if c.1 ≠ 0 then (c.1, c.2, a.2.2) else trSave (c.2, a.2.2) 1 0 init
def trPut (s : Fl × Rec) (b : List UInt8) : Int × Fl × Rec :=
  if s.2.phase ≠ 1 then (16, s.1, s.2)
  else if s.2.done % 256 ≠ 0 ∨ (4096 : Int) - s.2.done < b.length then (12, s.1, s.2) else
  let c := bkClear s.1 18 (s.2.done / 256 : Nat) ((s.2.done + b.length + 255) / 256 : Nat)
  if c.1 ≠ 0 then (c.1, c.2, s.2) else
  let w := bkWrite c.2 18 (s.2.done : Nat) b
  if w.1 ≠ 0 then (w.1, w.2, s.2) else trSave (w.2, s.2) 1 (s.2.done + b.length) s.2.init
/-- Flash and record that may be. -/
structure TOk (s : Fl × Rec) : Prop where
  f : s.1.Ok
  r : s.2.Ok
theorem saveS_rec {f : Fl} {r : Rec} (hr : r.Ok) : (saveS f r).1.Ok := by
  have hw := (loadS_ok f).1.seq
  unfold saveS
  simp only
  split
  · exact rec0_ok
  split
  · exact rec0_ok
  rename_i h1 h2
  split
  · exact rec0_ok
  generalize (if (loadS f).2.2 = 15 then 0 else 1 - (loadS f).2.1) = to
  generalize encF _ = e
  split
  · exact rec0_ok
  · refine ⟨?_, hr.floor, hr.bytes, hr.sum, hr.done, hr.init⟩
    show (loadS f).1.seq + 1 < 2 ^ 32
    by_cases h : (loadS f).2.2 = 0
    · have : (loadS f).1.seq ≠ 4294967295 := fun z => h2 ⟨h, z⟩
      omega
    · have h15 : (loadS f).2.2 = 15 := by
        rcases Classical.em ((loadS f).2.2 = 15) with z | z
        · exact z
        · exact absurd ⟨h, z⟩ h1
      rw [loadS_15 f h15]; decide
theorem trSave_ok {s : Fl × Rec} (h : TOk s) {phase : UInt8} {done : Nat} {init : List UInt8} (hd : done < 2 ^ 32) (hi : init.length < 2 ^ 40) : TOk (trSave s phase done init).2 := by
  have hn : Rec.Ok { s.2 with phase := phase, done := done, init := init } := ⟨h.r.seq, h.r.floor, h.r.bytes, h.r.sum, hd, hi⟩
  refine ⟨(saveS_ok h.f _).1, ?_⟩
  show Rec.Ok (if _ then _ else _)
  split
  · exact saveS_rec hn
  · exact h.r
theorem trSave_len {s : Fl × Rec} (h : s.1.Ok) (phase : UInt8) (done : Nat) (init : List UInt8) : (trSave s phase done init).2.1.b.length = s.1.b.length := (saveS_ok h _).2
theorem trStart_ok {s : Fl × Rec} (h : TOk s) {init : List UInt8} (hi : init.length < 2 ^ 40) : TOk (trStart s init).2 ∧ (trStart s init).2.1.b.length = s.1.b.length := by
  have h1 := trSave_ok h (phase := 0) (done := 0) (init := []) (by decide) (by decide)
  have l1 := trSave_len h.f 0 0 []
  unfold trStart
  simp only
  split
  · exact ⟨h1, l1⟩
  have h2 := bkClear_ok h1.f 18 0 16
  split
  · exact ⟨⟨h2.1, h1.r⟩, h2.2.trans l1⟩
  · have hk : TOk ((bkClear (trSave s 0 0 []).2.1 18 0 16).2, (trSave s 0 0 []).2.2) := ⟨h2.1, h1.r⟩
    exact ⟨trSave_ok hk (by decide) hi, (trSave_len hk.f _ _ _).trans (h2.2.trans l1)⟩
theorem trPut_ok {s : Fl × Rec} (h : TOk s) {b : List UInt8} : TOk (trPut s b).2 ∧ (trPut s b).2.1.b.length = s.1.b.length := by
  unfold trPut
  split
  · exact ⟨h, rfl⟩
  split
  · exact ⟨h, rfl⟩
  rename_i q1 q2
  have h2 := bkClear_ok h.f 18 (s.2.done / 256 : Nat) ((s.2.done + b.length + 255) / 256 : Nat)
  simp only
  split
  · exact ⟨⟨h2.1, h.r⟩, h2.2⟩
  have h3 := bkWrite_ok h2.1 18 (s.2.done : Nat) b
  split
  · exact ⟨⟨h3.1, h.r⟩, h3.2.trans h2.2⟩
  · have hk : TOk ((bkWrite (bkClear s.1 18 (s.2.done / 256 : Nat) ((s.2.done + b.length + 255) / 256 : Nat)).2 18 (s.2.done : Nat) b).2, s.2) := ⟨h3.1, h.r⟩
    exact ⟨trSave_ok hk (by omega) h.r.init, (trSave_len hk.f _ _ _).trans (h3.2.trans h2.2)⟩
end Go.Fw
