/-
  No cell of these rows narrows 'for every input' (looked for: loops, veiled, ifaces, maps, wideKeys, modest, calm, conditions, laid).
  DERIVED. THE GIVEN ROWS OF THIS SEAT. 4 by the template 'for every input the law returns true; each argument reads behind the call as it read before'; 0 by the template 'total and deterministic' (their statements: YtfnpgagkdcjjoaaTotals.lean).
  GIVEN WITH THE SEED: the statements are not yours to turn. If you find one false, say at which input.
  Laid BY PROGRAM, IN A SANDBOX (cutbox-rows.mjs): the forced cells as the released guide's own fill.sh prints them over the translation 5603938569c83a6e… (all of the seat's roots in one cut). By AI agents, Wed Nov 11 2026. No macro, syntax, notation, axiom, sorry.
-/
import Derived.Test.YtfnpgagkdcjjoaaChecked
import GoSem.Claim
import GoSem.ClaimJoined
import GoSem.ClaimMapViews
import Derived.JoinedTies
import Derived.KernelRfl
namespace Go.Proofs.Ytfnpgagkdcjjoaa
/- THE CELL 'sum', in the pinned program and in every row, IS THE sha256 OF THE DUMP (.gsa) THAT YtfnpgagkdcjjoaaProg.lean LOADS. Nothing in Lean hashes anything: it is a label: what it is worth is what the hold of that sum in a sandbox is worth. -/
noncomputable def Try.pinned : Pinned := { name := "ytfnpgagkdcjjoaa", sum := "5603938569c83a6ee6197d37ca429eb93f8647bef6467f91486a012c57b50cd5", checked := Try.checked }
namespace Rows
def none {H : Type} : Left H := { results := [], args := [] }

/-- 'bosunlaw03.ShortsumDigests': WHATEVER THE INPUT: true; the input reads as it did. -/
def shortsumDigestsSpec : ChangeSpec := { name := "shortsumDigests", fn := fun _ => fun
  | [d] => { results := [.lit (.bool true)], args := [d] }
  | _ => none }
def shortsumDigestsRow : OpenClaim := { program := "ytfnpgagkdcjjoaa", sum := "5603938569c83a6ee6197d37ca429eb93f8647bef6467f91486a012c57b50cd5", func := "bosun/bosunlaw03.ShortsumDigests", spec := "shortsumDigests", apart := false }
def ShortsumDigestsSaid : Prop := shortsumDigestsRow.holds Try.pinned (OpenSpec.ofChange shortsumDigestsSpec)

/-- ITS FALSE NEIGHBOUR: 'it returns false'. Refute it at one input. -/
def shortsumDigestsWrong : ChangeSpec := { name := "shortsumDigests", fn := fun _ => fun
  | [d] => { results := [.lit (.bool false)], args := [d] }
  | _ => none }
def ShortsumDigestsWrongFalsely : Prop := shortsumDigestsRow.holds Try.pinned (OpenSpec.ofChange shortsumDigestsWrong)

/-- 'bosunlaw03.ShortsumParts': WHATEVER THE INPUT: true; the input reads as it did. -/
def shortsumPartsSpec : ChangeSpec := { name := "shortsumParts", fn := fun _ => fun
  | [d] => { results := [.lit (.bool true)], args := [d] }
  | _ => none }
def shortsumPartsRow : OpenClaim := { program := "ytfnpgagkdcjjoaa", sum := "5603938569c83a6ee6197d37ca429eb93f8647bef6467f91486a012c57b50cd5", func := "bosun/bosunlaw03.ShortsumParts", spec := "shortsumParts", apart := false }
def ShortsumPartsSaid : Prop := shortsumPartsRow.holds Try.pinned (OpenSpec.ofChange shortsumPartsSpec)

/-- ITS FALSE NEIGHBOUR: 'it returns false'. Refute it at one input. -/
def shortsumPartsWrong : ChangeSpec := { name := "shortsumParts", fn := fun _ => fun
  | [d] => { results := [.lit (.bool false)], args := [d] }
  | _ => none }
def ShortsumPartsWrongFalsely : Prop := shortsumPartsRow.holds Try.pinned (OpenSpec.ofChange shortsumPartsWrong)

/-- 'bosunlaw04.LongsumDigests': WHATEVER THE INPUT: true; the input reads as it did. -/
def longsumDigestsSpec : ChangeSpec := { name := "longsumDigests", fn := fun _ => fun
  | [d] => { results := [.lit (.bool true)], args := [d] }
  | _ => none }
def longsumDigestsRow : OpenClaim := { program := "ytfnpgagkdcjjoaa", sum := "5603938569c83a6ee6197d37ca429eb93f8647bef6467f91486a012c57b50cd5", func := "bosun/bosunlaw04.LongsumDigests", spec := "longsumDigests", apart := false }
def LongsumDigestsSaid : Prop := longsumDigestsRow.holds Try.pinned (OpenSpec.ofChange longsumDigestsSpec)

/-- ITS FALSE NEIGHBOUR: 'it returns false'. Refute it at one input. -/
def longsumDigestsWrong : ChangeSpec := { name := "longsumDigests", fn := fun _ => fun
  | [d] => { results := [.lit (.bool false)], args := [d] }
  | _ => none }
def LongsumDigestsWrongFalsely : Prop := longsumDigestsRow.holds Try.pinned (OpenSpec.ofChange longsumDigestsWrong)

/-- 'bosunlaw04.LongsumParts': WHATEVER THE INPUT: true; the input reads as it did. -/
def longsumPartsSpec : ChangeSpec := { name := "longsumParts", fn := fun _ => fun
  | [d] => { results := [.lit (.bool true)], args := [d] }
  | _ => none }
def longsumPartsRow : OpenClaim := { program := "ytfnpgagkdcjjoaa", sum := "5603938569c83a6ee6197d37ca429eb93f8647bef6467f91486a012c57b50cd5", func := "bosun/bosunlaw04.LongsumParts", spec := "longsumParts", apart := false }
def LongsumPartsSaid : Prop := longsumPartsRow.holds Try.pinned (OpenSpec.ofChange longsumPartsSpec)

/-- ITS FALSE NEIGHBOUR: 'it returns false'. Refute it at one input. -/
def longsumPartsWrong : ChangeSpec := { name := "longsumParts", fn := fun _ => fun
  | [d] => { results := [.lit (.bool false)], args := [d] }
  | _ => none }
def LongsumPartsWrongFalsely : Prop := longsumPartsRow.holds Try.pinned (OpenSpec.ofChange longsumPartsWrong)

/- THE SECOND FORM. 'bulk': how many values and letters a reading holds, each counted each time it is reached (what is shared counts as often as it is met; a slice's spare places count too). A statement '..UptoSaid' is the law's where the arguments, and the package variables that the reading takes, are together of bulk at most 1048576: NARROWER than '..Said'. Prove '..Said' where nothing that the law and all that it calls make is longer than what came in: it says more and counts as full. Else prove '..UptoSaid'. A law counts once. -/
mutual
def uptoBulk {H : Type} : DataW H → Nat
  | .lit (.string bytes) => bytes.length + 1
  | .lit _ => 1
  | .nil => 1
  | .ptr d => uptoBulk d + 1
  | .slice elems spare => uptoBulkAll elems + uptoBulkAll spare + 1
  | .agg parts => uptoBulkAll parts + 1
  | .iface _ d => uptoBulk d + 1
  | .map entries => uptoBulkEntries entries + 1
  | .held _ => 1
def uptoBulkAll {H : Type} : List (DataW H) → Nat
  | [] => 0
  | d :: r => uptoBulk d + uptoBulkAll r
def uptoBulkEntries {H : Type} : List (Lit × DataW H) → Nat
  | [] => 0
  | x :: r => uptoBulkEntry x + uptoBulkEntries r
def uptoBulkEntry {H : Type} : Lit × DataW H → Nat
  | (.string bytes, d) => bytes.length + uptoBulk d + 1
  | (_, d) => uptoBulk d + 1
 end
def uptoSmall : (H : Type) → List (DataW H) → Bool := fun _ ds => decide (uptoBulkAll ds ≤ 1048576)
def OpenSpec.upto (s : _root_.Go.ChangeSpec) : _root_.Go.OpenSpec := { _root_.Go.OpenSpec.ofChange s with cond := some uptoSmall }

/-- 'bosunlaw03.ShortsumDigests', WHERE WHAT IT READS IS OF BULK AT MOST 1048576: true; the input reads as it did. -/
def shortsumDigestsUptoRow : OpenClaim := { program := "ytfnpgagkdcjjoaa", sum := "5603938569c83a6ee6197d37ca429eb93f8647bef6467f91486a012c57b50cd5", func := "bosun/bosunlaw03.ShortsumDigests", spec := "shortsumDigests", apart := false, narrowed := true }
def ShortsumDigestsUptoSaid : Prop := shortsumDigestsUptoRow.holds Try.pinned (OpenSpec.upto shortsumDigestsSpec)

/-- 'bosunlaw03.ShortsumParts', WHERE WHAT IT READS IS OF BULK AT MOST 1048576: true; the input reads as it did. -/
def shortsumPartsUptoRow : OpenClaim := { program := "ytfnpgagkdcjjoaa", sum := "5603938569c83a6ee6197d37ca429eb93f8647bef6467f91486a012c57b50cd5", func := "bosun/bosunlaw03.ShortsumParts", spec := "shortsumParts", apart := false, narrowed := true }
def ShortsumPartsUptoSaid : Prop := shortsumPartsUptoRow.holds Try.pinned (OpenSpec.upto shortsumPartsSpec)

/-- 'bosunlaw04.LongsumDigests', WHERE WHAT IT READS IS OF BULK AT MOST 1048576: true; the input reads as it did. -/
def longsumDigestsUptoRow : OpenClaim := { program := "ytfnpgagkdcjjoaa", sum := "5603938569c83a6ee6197d37ca429eb93f8647bef6467f91486a012c57b50cd5", func := "bosun/bosunlaw04.LongsumDigests", spec := "longsumDigests", apart := false, narrowed := true }
def LongsumDigestsUptoSaid : Prop := longsumDigestsUptoRow.holds Try.pinned (OpenSpec.upto longsumDigestsSpec)

/-- 'bosunlaw04.LongsumParts', WHERE WHAT IT READS IS OF BULK AT MOST 1048576: true; the input reads as it did. -/
def longsumPartsUptoRow : OpenClaim := { program := "ytfnpgagkdcjjoaa", sum := "5603938569c83a6ee6197d37ca429eb93f8647bef6467f91486a012c57b50cd5", func := "bosun/bosunlaw04.LongsumParts", spec := "longsumParts", apart := false, narrowed := true }
def LongsumPartsUptoSaid : Prop := longsumPartsUptoRow.holds Try.pinned (OpenSpec.upto longsumPartsSpec)

end Rows
end Go.Proofs.Ytfnpgagkdcjjoaa
