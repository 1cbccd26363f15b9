/-
  What any bytes bring, one by one, to a decoder of any size.
-/
import Derived.Test.YtlffcidcopibmaaRows
import Derived.Test.YtlffcidcopibmaaT24
import Derived.WalkKit
import Derived.ProofKit
import Derived.OpenShut
import Derived.ShutString
import Derived.ChangeOld
import Derived.Below
import Derived.SizedLaws
set_option linter.unusedSimpArgs false
set_option linter.unusedVariables false
set_option linter.unusedSectionVars false
namespace Go.Proofs.Ytlffcidcopibmaa.deslipBytes
open Go.ChangeShapes Go.WideShapes Go.ChangeAt Go.RowKit Go.Fw
theorem own : ownKnob Try.prog.godebug = none := by kernel_rfl
theorem laidOut : laidOutB Try.prog = true := by kernel_rfl
set_option maxRecDepth 100000 in
theorem lifted (os : Os) (started : os.Started) (H : Type) (enc : TypeId × Value → H) :
    ReturnsInHanded {} Try.checked os 6 .any (Rows.deslipBytesSpec.pre6 enc Try.prog Try.f6 Rows.deslipBytesRow.domain false) (Rows.deslipBytesSpec.post enc Try.prog Try.f6 false true false false) := by
  refine law_lifted (C := Try.checked) (m := 8) (rt := 4) own started (by kernel_rfl) Try.func6
    (ChangeSpec.witness6 (enc := enc) (C := Try.checked) false ⟨#[], #[.slice none 0 0, .int .i64 0], []⟩ 8 (by kernel_rfl) (by kernel_rfl) (by kernel_rfl) (by kernel_rfl))
    laidOut rfl ?_ (by kernel_rfl) (by kernel_rfl) (by kernel_rfl) (by kernel_rfl) ?_
  · intro ds hl
    match ds, hl with
    | [d0, d1], _ => rfl
  · intro args has
    exact fDeslipBytes_law args has
theorem over : Rows.deslipBytesRow.holds Try.pinned (OpenSpec.ofChange Rows.deslipBytesSpec) :=
  OpenClaim.holds_of_wide 6 Try.f6 rfl rfl rfl rfl rfl rfl rfl ⟨rfl, rfl, rfl, rfl, rfl⟩ rfl rfl rfl rfl rfl (by kernel_rfl) Try.func6 (by kernel_rfl)
    (of_decide_eq_true (by kernel_rfl)) (by unfold Func.isWrapper; first | (rw [if_pos (by decide +kernel)]; kernel_rfl) | (rw [if_neg (by decide +kernel)]; exact ⟨rfl, rfl⟩))
    (fun os started H enc _ => lifted os started H enc)
theorem proved : Rows.DeslipBytesSaid := over
end Go.Proofs.Ytlffcidcopibmaa.deslipBytes
namespace Go.Proofs.Ytlffcidcopibmaa
/-- The law's row. -/
theorem deslipBytes_holds : Rows.DeslipBytesSaid := deslipBytes.proved
end Go.Proofs.Ytlffcidcopibmaa

