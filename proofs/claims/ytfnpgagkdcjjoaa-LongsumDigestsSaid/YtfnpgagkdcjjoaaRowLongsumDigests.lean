/-
  The digest of any bytes. It holds of all arguments.
-/
import Derived.Test.YtfnpgagkdcjjoaaRows
import Derived.Test.YtfnpgagkdcjjoaacG9
import Derived.WalkKit
import Derived.ProofKit
import Derived.OpenShut
import Derived.ShutString
import Derived.ChangeOld
import Derived.Below
import Derived.SizedLaws
set_option linter.unusedSimpArgs false
set_option linter.unusedVariables false
set_option linter.unusedSectionVars false
namespace Go.Proofs.Ytfnpgagkdcjjoaa.longsumDigests
open Go.ChangeShapes Go.WideShapes Go.ChangeAt Go.RowKit Go.Fw
theorem own : ownKnob Try.prog.godebug = none := by kernel_rfl
theorem laidOut : laidOutB Try.prog = true := by kernel_rfl
set_option maxRecDepth 100000 in
theorem lifted (os : Os) (started : os.Started) (H : Type) (enc : TypeId × Value → H) :
    ReturnsInHanded {} Try.checked os 5 .any (Rows.longsumDigestsSpec.pre6 enc Try.prog Try.f5 Rows.longsumDigestsRow.domain false) (Rows.longsumDigestsSpec.post enc Try.prog Try.f5 false true false false) := by
  refine law_lifted (C := Try.checked) (m := 8) (rt := 4) own started (by kernel_rfl) Try.func5
    (ChangeSpec.witness6 (enc := enc) (C := Try.checked) false ⟨#[], #[.slice none 0 0], []⟩ 8 (by kernel_rfl) (by kernel_rfl) (by kernel_rfl) (by kernel_rfl))
    laidOut rfl ?_ (by kernel_rfl) (by kernel_rfl) (by kernel_rfl) (by kernel_rfl) (by kernel_rfl) ?_
  · intro ds hl
    match ds, hl with
    | [d0], _ => rfl
  · intro args has
    exact fLongsumDigests_law args has
theorem over : Rows.longsumDigestsRow.holds Try.pinned (OpenSpec.ofChange Rows.longsumDigestsSpec) :=
  OpenClaim.holds_of_wide 5 Try.f5 rfl rfl rfl rfl rfl rfl rfl ⟨rfl, rfl, rfl, rfl, rfl⟩ rfl rfl rfl rfl rfl (by kernel_rfl) Try.func5 (by kernel_rfl)
    (of_decide_eq_true (by kernel_rfl)) (by unfold Func.isWrapper; first | (rw [if_pos (by decide +kernel)]; kernel_rfl) | (rw [if_neg (by decide +kernel)]; exact ⟨rfl, rfl⟩))
    (fun os started H enc _ => lifted os started H enc)
theorem proved : Rows.LongsumDigestsSaid := over
end Go.Proofs.Ytfnpgagkdcjjoaa.longsumDigests
namespace Go.Proofs.Ytfnpgagkdcjjoaa
/-- The law's row. -/
theorem longsumDigests_holds : Rows.LongsumDigestsSaid := longsumDigests.proved
end Go.Proofs.Ytfnpgagkdcjjoaa

