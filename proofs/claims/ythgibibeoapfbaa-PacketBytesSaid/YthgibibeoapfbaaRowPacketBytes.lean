/-
  Any packet's bytes. It holds of all arguments.
-/
import Derived.Test.YthgibibeoapfbaaRows
import Derived.Test.YthgibibeoapfbaaeP7
import Derived.WalkKit
import Derived.ProofKit
import Derived.OpenShut
import Derived.ShutString
import Derived.ChangeOld
import Derived.Below
import Derived.SizedLaws
set_option linter.unusedSimpArgs false
set_option linter.unusedVariables false
set_option linter.unusedSectionVars false
namespace Go.Proofs.Ythgibibeoapfbaa.packetBytes
open Go.ChangeShapes Go.WideShapes Go.ChangeAt Go.RowKit Go.Fw
theorem own : ownKnob Try.prog.godebug = none := by kernel_rfl
theorem laidOut : laidOutB Try.prog = true := by kernel_rfl
set_option maxRecDepth 100000 in
theorem lifted (os : Os) (started : os.Started) (H : Type) (enc : TypeId × Value → H) :
    ReturnsInHanded {} Try.checked os 3 .any (Rows.packetBytesSpec.pre6 enc Try.prog Try.f3 Rows.packetBytesRow.domain false) (Rows.packetBytesSpec.post enc Try.prog Try.f3 false true false false) := by
  refine law_lifted (C := Try.checked) (m := 8) (rt := 4) own started (by kernel_rfl) Try.func3
    (ChangeSpec.witness6 (enc := enc) (C := Try.checked) false ⟨#[], #[(.agg ⟨.int .u32 0 :: .int .u8 0 :: .int .u32 0 :: .int .u32 0 :: List.replicate 96 (.int .u8 0)⟩)], []⟩ 8 (by kernel_rfl) (by kernel_rfl) (by kernel_rfl) (by kernel_rfl))
    laidOut rfl ?_ (by kernel_rfl) (by kernel_rfl) (by kernel_rfl) (by kernel_rfl) (by kernel_rfl) ?_
  · intro ds hl
    match ds, hl with
    | [d0], _ => rfl
  · intro args has
    exact fPacketBytes_law args has
theorem over : Rows.packetBytesRow.holds Try.pinned (OpenSpec.ofChange Rows.packetBytesSpec) :=
  OpenClaim.holds_of_wide 3 Try.f3 rfl rfl rfl rfl rfl rfl rfl ⟨rfl, rfl, rfl, rfl, rfl⟩ rfl rfl rfl rfl rfl (by kernel_rfl) Try.func3 (by kernel_rfl)
    (of_decide_eq_true (by kernel_rfl)) (by unfold Func.isWrapper; first | (rw [if_pos (by decide +kernel)]; kernel_rfl) | (rw [if_neg (by decide +kernel)]; exact ⟨rfl, rfl⟩))
    (fun os started H enc _ => lifted os started H enc)
theorem proved : Rows.PacketBytesSaid := over
end Go.Proofs.Ythgibibeoapfbaa.packetBytes
namespace Go.Proofs.Ythgibibeoapfbaa
/-- The law's row. -/
theorem packetBytes_holds : Rows.PacketBytesSaid := packetBytes.proved
end Go.Proofs.Ythgibibeoapfbaa

