/-
  Images that match a packet: the law holds for every packet and any bytes.
-/
import Derived.Test.YthgibibeoapfbaaRows
import Derived.Test.YthgibibeoapfbaaeP9
import Derived.WalkKit
import Derived.ProofKit
import Derived.OpenShut
import Derived.ShutString
import Derived.ChangeOld
import Derived.Below
import Derived.SizedLaws
set_option linter.unusedSimpArgs false
set_option linter.unusedVariables false
set_option linter.unusedSectionVars false
namespace Go.Proofs.Ythgibibeoapfbaa.packetMatches
open Go.ChangeShapes Go.WideShapes Go.ChangeAt Go.RowKit Go.Fw
theorem own : ownKnob Try.prog.godebug = none := by kernel_rfl
theorem laidOut : laidOutB Try.prog = true := by kernel_rfl
set_option maxRecDepth 100000 in
theorem lifted (os : Os) (started : os.Started) (H : Type) (enc : TypeId × Value → H) :
    ReturnsInHanded {} Try.checked os 5 .any (Rows.packetMatchesSpec.pre6 enc Try.prog Try.f5 Rows.packetMatchesRow.domain false) (Rows.packetMatchesSpec.post enc Try.prog Try.f5 false true false false) := by
  refine law_lifted (C := Try.checked) (m := 8) (rt := 4) own started (by kernel_rfl) Try.func5
    (ChangeSpec.witness6 (enc := enc) (C := Try.checked) false ⟨#[], #[(.agg ⟨.int .u32 0 :: .int .u8 0 :: .int .u32 0 :: .int .u32 0 :: List.replicate 96 (.int .u8 0)⟩), .slice none 0 0, .slice none 0 0], []⟩ 8 (by kernel_rfl) (by kernel_rfl) (by kernel_rfl) (by kernel_rfl))
    laidOut rfl ?_ (by kernel_rfl) (by kernel_rfl) (by kernel_rfl) (by kernel_rfl) (by kernel_rfl) ?_
  · intro ds hl
    match ds, hl with
    | [d0, d1, d2], _ => rfl
  · intro args has
    exact fPacketMatches_law args has
theorem over : Rows.packetMatchesRow.holds Try.pinned (OpenSpec.ofChange Rows.packetMatchesSpec) :=
  OpenClaim.holds_of_wide 5 Try.f5 rfl rfl rfl rfl rfl rfl rfl ⟨rfl, rfl, rfl, rfl, rfl⟩ rfl rfl rfl rfl rfl (by kernel_rfl) Try.func5 (by kernel_rfl)
    (of_decide_eq_true (by kernel_rfl)) (by unfold Func.isWrapper; first | (rw [if_pos (by decide +kernel)]; kernel_rfl) | (rw [if_neg (by decide +kernel)]; exact ⟨rfl, rfl⟩))
    (fun os started H enc _ => lifted os started H enc)
theorem proved : Rows.PacketMatchesSaid := over
end Go.Proofs.Ythgibibeoapfbaa.packetMatches
namespace Go.Proofs.Ythgibibeoapfbaa
/-- The law's row. -/
theorem packetMatches_holds : Rows.PacketMatchesSaid := packetMatches.proved
end Go.Proofs.Ythgibibeoapfbaa

