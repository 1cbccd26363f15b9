/-
  No uploader: the law holds.
-/
import Derived.Test.YtifgdmfapammfaaRows
import Derived.Test.YtifgdmfapammfaaOwnA
import Derived.WalkKit
import Derived.ProofKit
import Derived.OpenShut
import Derived.ShutString
import Derived.ChangeOld
import Derived.Below
import Derived.SizedLaws
set_option linter.unusedSimpArgs false
set_option linter.unnecessarySimpa false
set_option linter.unusedVariables false
set_option linter.unusedSectionVars false
namespace Go.Proofs.Ytifgdmfapammfaa.uploaderNil
open Go.ChangeShapes Go.WideShapes Go.ChangeAt Go.RowKit Go.Fw
theorem own : ownKnob Try.prog.godebug = none := by kernel_rfl
theorem laidOut : laidOutB Try.prog = true := by kernel_rfl
set_option maxRecDepth 100000 in
theorem lifted (os : Os) (started : os.Started) (H : Type) (enc : TypeId × Value → H) :
    ReturnsInHanded {} Try.checked os 4 .any (Rows.uploaderNilSpec.pre6 enc Try.prog Try.f4 Rows.uploaderNilRow.domain false) (Rows.uploaderNilSpec.post enc Try.prog Try.f4 false true false false) := by
  refine law_lifted (C := Try.checked) (m := 8) (rt := 4) own started (by kernel_rfl) Try.func4
    (ChangeSpec.witness6 (enc := enc) (C := Try.checked) false ⟨#[], #[.slice none 0 0], []⟩ 8 (by kernel_rfl) (by kernel_rfl) (by kernel_rfl) (by kernel_rfl))
    laidOut rfl ?_ (by kernel_rfl) (by kernel_rfl) (by kernel_rfl) (by kernel_rfl) (by kernel_rfl) ?_
  · intro ds hl
    match ds, hl with
    | [d0], _ => rfl
  · intro args has
    exact fUploaderNil_law args has
theorem over : Rows.uploaderNilRow.holds Try.pinned (OpenSpec.ofChange Rows.uploaderNilSpec) :=
  OpenClaim.holds_of_wide 4 Try.f4 rfl rfl rfl rfl rfl rfl rfl ⟨rfl, rfl, rfl, rfl, rfl⟩ rfl rfl rfl rfl rfl (by kernel_rfl) Try.func4 (by kernel_rfl)
    (of_decide_eq_true (by kernel_rfl)) (by unfold Func.isWrapper; first | (rw [if_pos (by decide +kernel)]; kernel_rfl) | (rw [if_neg (by decide +kernel)]; exact ⟨rfl, rfl⟩))
    (fun os started H enc _ => lifted os started H enc)
theorem proved : Rows.UploaderNilSaid := over
end Go.Proofs.Ytifgdmfapammfaa.uploaderNil
namespace Go.Proofs.Ytifgdmfapammfaa
theorem uploaderNil_holds : Rows.UploaderNilSaid := uploaderNil.proved
end Go.Proofs.Ytifgdmfapammfaa
