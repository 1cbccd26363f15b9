/-
  No cell of these rows narrows 'for every input' (looked for: loops, veiled, ifaces, maps, wideKeys, modest, calm, conditions, laid).
  DERIVED. THE GIVEN ROWS OF THIS SEAT. 3 by the template 'for every input the law returns true; each argument reads behind the call as it read before'; 0 by the template 'total and deterministic' (their statements: YtifgdmfapammfaaTotals.lean).
  GIVEN WITH THE SEED: the statements are not yours to turn. If you find one false, say at which input.
  Laid BY PROGRAM, IN A SANDBOX (cutbox-rows.mjs): the forced cells as the released guide's own fill.sh prints them over the translation 4351418b71b54c40… (all of the seat's roots in one cut). By AI agents, Wed Nov 11 2026. No macro, syntax, notation, axiom, sorry.
-/
import Derived.Test.YtifgdmfapammfaaChecked
import GoSem.Claim
import GoSem.ClaimJoined
import GoSem.ClaimMapViews
import Derived.JoinedTies
import Derived.KernelRfl
namespace Go.Proofs.Ytifgdmfapammfaa
/- THE CELL 'sum', in the pinned program and in every row, IS THE sha256 OF THE DUMP (.gsa) THAT YtifgdmfapammfaaProg.lean LOADS. Nothing in Lean hashes anything: it is a label: what it is worth is what the hold of that sum in a sandbox is worth. -/
noncomputable def Try.pinned : Pinned := { name := "ytifgdmfapammfaa", sum := "4351418b71b54c40126733b18d4a9a44201ae0ea9b47a3319d20d167acd56a5a", checked := Try.checked }
namespace Rows
def none {H : Type} : Left H := { results := [], args := [] }

/-- 'bosunlaw22.UploaderActs': WHATEVER THE INPUT: true; the input reads as it did. -/
def uploaderActsSpec : ChangeSpec := { name := "uploaderActs", fn := fun _ => fun
  | [d1, d2, d3] => { results := [.lit (.bool true)], args := [d1, d2, d3] }
  | _ => none }
def uploaderActsRow : OpenClaim := { program := "ytifgdmfapammfaa", sum := "4351418b71b54c40126733b18d4a9a44201ae0ea9b47a3319d20d167acd56a5a", func := "bosun/bosunlaw22.UploaderActs", spec := "uploaderActs", unfollowed := true, recurses := true, apart := false }
def UploaderActsSaid : Prop := uploaderActsRow.holds Try.pinned (OpenSpec.ofChange uploaderActsSpec)

/-- ITS FALSE NEIGHBOUR: 'it returns false'. Refute it at one input. -/
def uploaderActsWrong : ChangeSpec := { name := "uploaderActs", fn := fun _ => fun
  | [d1, d2, d3] => { results := [.lit (.bool false)], args := [d1, d2, d3] }
  | _ => none }
def UploaderActsWrongFalsely : Prop := uploaderActsRow.holds Try.pinned (OpenSpec.ofChange uploaderActsWrong)

/-- 'bosunlaw22.UploaderNil': WHATEVER THE INPUT: true; the input reads as it did. -/
def uploaderNilSpec : ChangeSpec := { name := "uploaderNil", fn := fun _ => fun
  | [d] => { results := [.lit (.bool true)], args := [d] }
  | _ => none }
def uploaderNilRow : OpenClaim := { program := "ytifgdmfapammfaa", sum := "4351418b71b54c40126733b18d4a9a44201ae0ea9b47a3319d20d167acd56a5a", func := "bosun/bosunlaw22.UploaderNil", spec := "uploaderNil", unfollowed := true, recurses := true, apart := false }
def UploaderNilSaid : Prop := uploaderNilRow.holds Try.pinned (OpenSpec.ofChange uploaderNilSpec)

/-- ITS FALSE NEIGHBOUR: 'it returns false'. Refute it at one input. -/
def uploaderNilWrong : ChangeSpec := { name := "uploaderNil", fn := fun _ => fun
  | [d] => { results := [.lit (.bool false)], args := [d] }
  | _ => none }
def UploaderNilWrongFalsely : Prop := uploaderNilRow.holds Try.pinned (OpenSpec.ofChange uploaderNilWrong)

/-- 'bosunlaw17.ObjectNil': WHATEVER THE INPUT: true; the input reads as it did. -/
def objectNilSpec : ChangeSpec := { name := "objectNil", fn := fun _ => fun
  | [d] => { results := [.lit (.bool true)], args := [d] }
  | _ => none }
def objectNilRow : OpenClaim := { program := "ytifgdmfapammfaa", sum := "4351418b71b54c40126733b18d4a9a44201ae0ea9b47a3319d20d167acd56a5a", func := "bosun/bosunlaw17.ObjectNil", spec := "objectNil", inPlace := ["math/bits.Add64", "math/bits.Sub64"], unfollowed := true, recurses := true, apart := false }
def ObjectNilSaid : Prop := objectNilRow.holds Try.pinned (OpenSpec.ofChange objectNilSpec)

/-- ITS FALSE NEIGHBOUR: 'it returns false'. Refute it at one input. -/
def objectNilWrong : ChangeSpec := { name := "objectNil", fn := fun _ => fun
  | [d] => { results := [.lit (.bool false)], args := [d] }
  | _ => none }
def ObjectNilWrongFalsely : Prop := objectNilRow.holds Try.pinned (OpenSpec.ofChange objectNilWrong)

/- THE SECOND FORM. 'bulk': how many values and letters a reading holds, each counted each time it is reached (what is shared counts as often as it is met; a slice's spare places count too). A statement '..UptoSaid' is the law's where the arguments, and the package variables that the reading takes, are together of bulk at most 1048576: NARROWER than '..Said'. Prove '..Said' where nothing that the law and all that it calls make is longer than what came in: it says more and counts as full. Else prove '..UptoSaid'. A law counts once. -/
mutual
def uptoBulk {H : Type} : DataW H → Nat
  | .lit (.string bytes) => bytes.length + 1
  | .lit _ => 1
  | .nil => 1
  | .ptr d => uptoBulk d + 1
  | .slice elems spare => uptoBulkAll elems + uptoBulkAll spare + 1
  | .agg parts => uptoBulkAll parts + 1
  | .iface _ d => uptoBulk d + 1
  | .map entries => uptoBulkEntries entries + 1
  | .held _ => 1
def uptoBulkAll {H : Type} : List (DataW H) → Nat
  | [] => 0
  | d :: r => uptoBulk d + uptoBulkAll r
def uptoBulkEntries {H : Type} : List (Lit × DataW H) → Nat
  | [] => 0
  | x :: r => uptoBulkEntry x + uptoBulkEntries r
def uptoBulkEntry {H : Type} : Lit × DataW H → Nat
  | (.string bytes, d) => bytes.length + uptoBulk d + 1
  | (_, d) => uptoBulk d + 1
 end
def uptoSmall : (H : Type) → List (DataW H) → Bool := fun _ ds => decide (uptoBulkAll ds ≤ 1048576)
def OpenSpec.upto (s : _root_.Go.ChangeSpec) : _root_.Go.OpenSpec := { _root_.Go.OpenSpec.ofChange s with cond := some uptoSmall }

/-- 'bosunlaw22.UploaderActs', WHERE WHAT IT READS IS OF BULK AT MOST 1048576: true; the input reads as it did. -/
def uploaderActsUptoRow : OpenClaim := { program := "ytifgdmfapammfaa", sum := "4351418b71b54c40126733b18d4a9a44201ae0ea9b47a3319d20d167acd56a5a", func := "bosun/bosunlaw22.UploaderActs", spec := "uploaderActs", unfollowed := true, recurses := true, apart := false, narrowed := true }
def UploaderActsUptoSaid : Prop := uploaderActsUptoRow.holds Try.pinned (OpenSpec.upto uploaderActsSpec)

/-- 'bosunlaw22.UploaderNil', WHERE WHAT IT READS IS OF BULK AT MOST 1048576: true; the input reads as it did. -/
def uploaderNilUptoRow : OpenClaim := { program := "ytifgdmfapammfaa", sum := "4351418b71b54c40126733b18d4a9a44201ae0ea9b47a3319d20d167acd56a5a", func := "bosun/bosunlaw22.UploaderNil", spec := "uploaderNil", unfollowed := true, recurses := true, apart := false, narrowed := true }
def UploaderNilUptoSaid : Prop := uploaderNilUptoRow.holds Try.pinned (OpenSpec.upto uploaderNilSpec)

/-- 'bosunlaw17.ObjectNil', WHERE WHAT IT READS IS OF BULK AT MOST 1048576: true; the input reads as it did. -/
def objectNilUptoRow : OpenClaim := { program := "ytifgdmfapammfaa", sum := "4351418b71b54c40126733b18d4a9a44201ae0ea9b47a3319d20d167acd56a5a", func := "bosun/bosunlaw17.ObjectNil", spec := "objectNil", inPlace := ["math/bits.Add64", "math/bits.Sub64"], unfollowed := true, recurses := true, apart := false, narrowed := true }
def ObjectNilUptoSaid : Prop := objectNilUptoRow.holds Try.pinned (OpenSpec.upto objectNilSpec)

end Rows
end Go.Proofs.Ytifgdmfapammfaa
