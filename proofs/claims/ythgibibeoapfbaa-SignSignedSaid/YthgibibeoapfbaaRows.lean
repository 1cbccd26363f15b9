/-
  No cell of these rows narrows 'for every input' (looked for: loops, veiled, ifaces, maps, wideKeys, modest, calm, conditions, laid).
  DERIVED. THE GIVEN ROWS OF THIS SEAT. 9 by the template 'for every input the law returns true; each argument reads behind the call as it read before'; 0 by the template 'total and deterministic' (their statements: YthgibibeoapfbaaTotals.lean).
  GIVEN WITH THE SEED: the statements are not yours to turn. If you find one false, say at which input.
  Laid BY PROGRAM, IN A SANDBOX (cutbox-rows.mjs): the forced cells as the released guide's own fill.sh prints them over the translation 81065036e152e001… (all of the seat's roots in one cut). By AI agents, Wed Nov 11 2026. No macro, syntax, notation, axiom, sorry.
-/
import Derived.Test.YthgibibeoapfbaaChecked
import GoSem.Claim
import GoSem.ClaimJoined
import GoSem.ClaimMapViews
import Derived.JoinedTies
import Derived.KernelRfl
namespace Go.Proofs.Ythgibibeoapfbaa
/- THE CELL 'sum', in the pinned program and in every row, IS THE sha256 OF THE DUMP (.gsa) THAT YthgibibeoapfbaaProg.lean LOADS. Nothing in Lean hashes anything: it is a label: what it is worth is what the hold of that sum in a sandbox is worth. -/
noncomputable def Try.pinned : Pinned := { name := "ythgibibeoapfbaa", sum := "81065036e152e001f4743fd8bb6ec0cc312b8ff8abafe64cb8f2f3bbd985074a", checked := Try.checked }
namespace Rows
def none {H : Type} : Left H := { results := [], args := [] }

/-- 'bosunlaw12.PacketBytes': WHATEVER THE INPUT: true; the input reads as it did. -/
def packetBytesSpec : ChangeSpec := { name := "packetBytes", fn := fun _ => fun
  | [d] => { results := [.lit (.bool true)], args := [d] }
  | _ => none }
def packetBytesRow : OpenClaim := { program := "ythgibibeoapfbaa", sum := "81065036e152e001f4743fd8bb6ec0cc312b8ff8abafe64cb8f2f3bbd985074a", func := "bosun/bosunlaw12.PacketBytes", spec := "packetBytes", apart := false }
def PacketBytesSaid : Prop := packetBytesRow.holds Try.pinned (OpenSpec.ofChange packetBytesSpec)

/-- ITS FALSE NEIGHBOUR: 'it returns false'. Refute it at one input. -/
def packetBytesWrong : ChangeSpec := { name := "packetBytes", fn := fun _ => fun
  | [d] => { results := [.lit (.bool false)], args := [d] }
  | _ => none }
def PacketBytesWrongFalsely : Prop := packetBytesRow.holds Try.pinned (OpenSpec.ofChange packetBytesWrong)

/-- 'bosunlaw12.PacketParses': WHATEVER THE INPUT: true; the input reads as it did. -/
def packetParsesSpec : ChangeSpec := { name := "packetParses", fn := fun _ => fun
  | [d] => { results := [.lit (.bool true)], args := [d] }
  | _ => none }
def packetParsesRow : OpenClaim := { program := "ythgibibeoapfbaa", sum := "81065036e152e001f4743fd8bb6ec0cc312b8ff8abafe64cb8f2f3bbd985074a", func := "bosun/bosunlaw12.PacketParses", spec := "packetParses", apart := false }
def PacketParsesSaid : Prop := packetParsesRow.holds Try.pinned (OpenSpec.ofChange packetParsesSpec)

/-- ITS FALSE NEIGHBOUR: 'it returns false'. Refute it at one input. -/
def packetParsesWrong : ChangeSpec := { name := "packetParses", fn := fun _ => fun
  | [d] => { results := [.lit (.bool false)], args := [d] }
  | _ => none }
def PacketParsesWrongFalsely : Prop := packetParsesRow.holds Try.pinned (OpenSpec.ofChange packetParsesWrong)

/-- 'bosunlaw12.PacketMatches': WHATEVER THE INPUT: true; the input reads as it did. -/
def packetMatchesSpec : ChangeSpec := { name := "packetMatches", fn := fun _ => fun
  | [d1, d2, d3] => { results := [.lit (.bool true)], args := [d1, d2, d3] }
  | _ => none }
def packetMatchesRow : OpenClaim := { program := "ythgibibeoapfbaa", sum := "81065036e152e001f4743fd8bb6ec0cc312b8ff8abafe64cb8f2f3bbd985074a", func := "bosun/bosunlaw12.PacketMatches", spec := "packetMatches", apart := false }
def PacketMatchesSaid : Prop := packetMatchesRow.holds Try.pinned (OpenSpec.ofChange packetMatchesSpec)

/-- ITS FALSE NEIGHBOUR: 'it returns false'. Refute it at one input. -/
def packetMatchesWrong : ChangeSpec := { name := "packetMatches", fn := fun _ => fun
  | [d1, d2, d3] => { results := [.lit (.bool false)], args := [d1, d2, d3] }
  | _ => none }
def PacketMatchesWrongFalsely : Prop := packetMatchesRow.holds Try.pinned (OpenSpec.ofChange packetMatchesWrong)

/-- 'bosunlaw07.CurveBytes': WHATEVER THE INPUT: true; the input reads as it did. -/
def curveBytesSpec : ChangeSpec := { name := "curveBytes", fn := fun _ => fun
  | [d1, d2] => { results := [.lit (.bool true)], args := [d1, d2] }
  | _ => none }
def curveBytesRow : OpenClaim := { program := "ythgibibeoapfbaa", sum := "81065036e152e001f4743fd8bb6ec0cc312b8ff8abafe64cb8f2f3bbd985074a", func := "bosun/bosunlaw07.CurveBytes", spec := "curveBytes", inPlace := ["math/bits.Add64", "math/bits.Sub64"], apart := false }
def CurveBytesSaid : Prop := curveBytesRow.holds Try.pinned (OpenSpec.ofChange curveBytesSpec)

/-- ITS FALSE NEIGHBOUR: 'it returns false'. Refute it at one input. -/
def curveBytesWrong : ChangeSpec := { name := "curveBytes", fn := fun _ => fun
  | [d1, d2] => { results := [.lit (.bool false)], args := [d1, d2] }
  | _ => none }
def CurveBytesWrongFalsely : Prop := curveBytesRow.holds Try.pinned (OpenSpec.ofChange curveBytesWrong)

/-- 'bosunlaw07.CurveSums': WHATEVER THE INPUT: true; the input reads as it did. -/
def curveSumsSpec : ChangeSpec := { name := "curveSums", fn := fun _ => fun
  | [d1, d2] => { results := [.lit (.bool true)], args := [d1, d2] }
  | _ => none }
def curveSumsRow : OpenClaim := { program := "ythgibibeoapfbaa", sum := "81065036e152e001f4743fd8bb6ec0cc312b8ff8abafe64cb8f2f3bbd985074a", func := "bosun/bosunlaw07.CurveSums", spec := "curveSums", inPlace := ["math/bits.Add64", "math/bits.Sub64"], apart := false }
def CurveSumsSaid : Prop := curveSumsRow.holds Try.pinned (OpenSpec.ofChange curveSumsSpec)

/-- ITS FALSE NEIGHBOUR: 'it returns false'. Refute it at one input. -/
def curveSumsWrong : ChangeSpec := { name := "curveSums", fn := fun _ => fun
  | [d1, d2] => { results := [.lit (.bool false)], args := [d1, d2] }
  | _ => none }
def CurveSumsWrongFalsely : Prop := curveSumsRow.holds Try.pinned (OpenSpec.ofChange curveSumsWrong)

/-- 'bosunlaw07.CurveRules': WHATEVER THE INPUT: true; the input reads as it did. -/
def curveRulesSpec : ChangeSpec := { name := "curveRules", fn := fun _ => fun
  | [d1, d2] => { results := [.lit (.bool true)], args := [d1, d2] }
  | _ => none }
def curveRulesRow : OpenClaim := { program := "ythgibibeoapfbaa", sum := "81065036e152e001f4743fd8bb6ec0cc312b8ff8abafe64cb8f2f3bbd985074a", func := "bosun/bosunlaw07.CurveRules", spec := "curveRules", inPlace := ["math/bits.Add64", "math/bits.Sub64"], apart := false }
def CurveRulesSaid : Prop := curveRulesRow.holds Try.pinned (OpenSpec.ofChange curveRulesSpec)

/-- ITS FALSE NEIGHBOUR: 'it returns false'. Refute it at one input. -/
def curveRulesWrong : ChangeSpec := { name := "curveRules", fn := fun _ => fun
  | [d1, d2] => { results := [.lit (.bool false)], args := [d1, d2] }
  | _ => none }
def CurveRulesWrongFalsely : Prop := curveRulesRow.holds Try.pinned (OpenSpec.ofChange curveRulesWrong)

/-- 'bosunlaw08.SignSigned': WHATEVER THE INPUT: true; the input reads as it did. -/
def signSignedSpec : ChangeSpec := { name := "signSigned", fn := fun _ => fun
  | [d1, d2, d3] => { results := [.lit (.bool true)], args := [d1, d2, d3] }
  | _ => none }
def signSignedRow : OpenClaim := { program := "ythgibibeoapfbaa", sum := "81065036e152e001f4743fd8bb6ec0cc312b8ff8abafe64cb8f2f3bbd985074a", func := "bosun/bosunlaw08.SignSigned", spec := "signSigned", inPlace := ["math/bits.Add64", "math/bits.Sub64"], apart := false }
def SignSignedSaid : Prop := signSignedRow.holds Try.pinned (OpenSpec.ofChange signSignedSpec)

/-- ITS FALSE NEIGHBOUR: 'it returns false'. Refute it at one input. -/
def signSignedWrong : ChangeSpec := { name := "signSigned", fn := fun _ => fun
  | [d1, d2, d3] => { results := [.lit (.bool false)], args := [d1, d2, d3] }
  | _ => none }
def SignSignedWrongFalsely : Prop := signSignedRow.holds Try.pinned (OpenSpec.ofChange signSignedWrong)

/-- 'bosunlaw08.SignAny': WHATEVER THE INPUT: true; the input reads as it did. -/
def signAnySpec : ChangeSpec := { name := "signAny", fn := fun _ => fun
  | [d1, d2, d3] => { results := [.lit (.bool true)], args := [d1, d2, d3] }
  | _ => none }
def signAnyRow : OpenClaim := { program := "ythgibibeoapfbaa", sum := "81065036e152e001f4743fd8bb6ec0cc312b8ff8abafe64cb8f2f3bbd985074a", func := "bosun/bosunlaw08.SignAny", spec := "signAny", inPlace := ["math/bits.Add64", "math/bits.Sub64"], apart := false }
def SignAnySaid : Prop := signAnyRow.holds Try.pinned (OpenSpec.ofChange signAnySpec)

/-- ITS FALSE NEIGHBOUR: 'it returns false'. Refute it at one input. -/
def signAnyWrong : ChangeSpec := { name := "signAny", fn := fun _ => fun
  | [d1, d2, d3] => { results := [.lit (.bool false)], args := [d1, d2, d3] }
  | _ => none }
def SignAnyWrongFalsely : Prop := signAnyRow.holds Try.pinned (OpenSpec.ofChange signAnyWrong)

/-- 'bosunlaw08.SignParts': WHATEVER THE INPUT: true; the input reads as it did. -/
def signPartsSpec : ChangeSpec := { name := "signParts", fn := fun _ => fun
  | [d1, d2, d3] => { results := [.lit (.bool true)], args := [d1, d2, d3] }
  | _ => none }
def signPartsRow : OpenClaim := { program := "ythgibibeoapfbaa", sum := "81065036e152e001f4743fd8bb6ec0cc312b8ff8abafe64cb8f2f3bbd985074a", func := "bosun/bosunlaw08.SignParts", spec := "signParts", inPlace := ["math/bits.Add64", "math/bits.Sub64"], apart := false }
def SignPartsSaid : Prop := signPartsRow.holds Try.pinned (OpenSpec.ofChange signPartsSpec)

/-- ITS FALSE NEIGHBOUR: 'it returns false'. Refute it at one input. -/
def signPartsWrong : ChangeSpec := { name := "signParts", fn := fun _ => fun
  | [d1, d2, d3] => { results := [.lit (.bool false)], args := [d1, d2, d3] }
  | _ => none }
def SignPartsWrongFalsely : Prop := signPartsRow.holds Try.pinned (OpenSpec.ofChange signPartsWrong)

/- THE SECOND FORM. 'bulk': how many values and letters a reading holds, each counted each time it is reached (what is shared counts as often as it is met; a slice's spare places count too). A statement '..UptoSaid' is the law's where the arguments, and the package variables that the reading takes, are together of bulk at most 1048576: NARROWER than '..Said'. Prove '..Said' where nothing that the law and all that it calls make is longer than what came in: it says more and counts as full. Else prove '..UptoSaid'. A law counts once. -/
mutual
def uptoBulk {H : Type} : DataW H → Nat
  | .lit (.string bytes) => bytes.length + 1
  | .lit _ => 1
  | .nil => 1
  | .ptr d => uptoBulk d + 1
  | .slice elems spare => uptoBulkAll elems + uptoBulkAll spare + 1
  | .agg parts => uptoBulkAll parts + 1
  | .iface _ d => uptoBulk d + 1
  | .map entries => uptoBulkEntries entries + 1
  | .held _ => 1
def uptoBulkAll {H : Type} : List (DataW H) → Nat
  | [] => 0
  | d :: r => uptoBulk d + uptoBulkAll r
def uptoBulkEntries {H : Type} : List (Lit × DataW H) → Nat
  | [] => 0
  | x :: r => uptoBulkEntry x + uptoBulkEntries r
def uptoBulkEntry {H : Type} : Lit × DataW H → Nat
  | (.string bytes, d) => bytes.length + uptoBulk d + 1
  | (_, d) => uptoBulk d + 1
 end
def uptoSmall : (H : Type) → List (DataW H) → Bool := fun _ ds => decide (uptoBulkAll ds ≤ 1048576)
def OpenSpec.upto (s : _root_.Go.ChangeSpec) : _root_.Go.OpenSpec := { _root_.Go.OpenSpec.ofChange s with cond := some uptoSmall }

/-- 'bosunlaw12.PacketBytes', WHERE WHAT IT READS IS OF BULK AT MOST 1048576: true; the input reads as it did. -/
def packetBytesUptoRow : OpenClaim := { program := "ythgibibeoapfbaa", sum := "81065036e152e001f4743fd8bb6ec0cc312b8ff8abafe64cb8f2f3bbd985074a", func := "bosun/bosunlaw12.PacketBytes", spec := "packetBytes", apart := false, narrowed := true }
def PacketBytesUptoSaid : Prop := packetBytesUptoRow.holds Try.pinned (OpenSpec.upto packetBytesSpec)

/-- 'bosunlaw12.PacketParses', WHERE WHAT IT READS IS OF BULK AT MOST 1048576: true; the input reads as it did. -/
def packetParsesUptoRow : OpenClaim := { program := "ythgibibeoapfbaa", sum := "81065036e152e001f4743fd8bb6ec0cc312b8ff8abafe64cb8f2f3bbd985074a", func := "bosun/bosunlaw12.PacketParses", spec := "packetParses", apart := false, narrowed := true }
def PacketParsesUptoSaid : Prop := packetParsesUptoRow.holds Try.pinned (OpenSpec.upto packetParsesSpec)

/-- 'bosunlaw12.PacketMatches', WHERE WHAT IT READS IS OF BULK AT MOST 1048576: true; the input reads as it did. -/
def packetMatchesUptoRow : OpenClaim := { program := "ythgibibeoapfbaa", sum := "81065036e152e001f4743fd8bb6ec0cc312b8ff8abafe64cb8f2f3bbd985074a", func := "bosun/bosunlaw12.PacketMatches", spec := "packetMatches", apart := false, narrowed := true }
def PacketMatchesUptoSaid : Prop := packetMatchesUptoRow.holds Try.pinned (OpenSpec.upto packetMatchesSpec)

/-- 'bosunlaw07.CurveBytes', WHERE WHAT IT READS IS OF BULK AT MOST 1048576: true; the input reads as it did. -/
def curveBytesUptoRow : OpenClaim := { program := "ythgibibeoapfbaa", sum := "81065036e152e001f4743fd8bb6ec0cc312b8ff8abafe64cb8f2f3bbd985074a", func := "bosun/bosunlaw07.CurveBytes", spec := "curveBytes", inPlace := ["math/bits.Add64", "math/bits.Sub64"], apart := false, narrowed := true }
def CurveBytesUptoSaid : Prop := curveBytesUptoRow.holds Try.pinned (OpenSpec.upto curveBytesSpec)

/-- 'bosunlaw07.CurveSums', WHERE WHAT IT READS IS OF BULK AT MOST 1048576: true; the input reads as it did. -/
def curveSumsUptoRow : OpenClaim := { program := "ythgibibeoapfbaa", sum := "81065036e152e001f4743fd8bb6ec0cc312b8ff8abafe64cb8f2f3bbd985074a", func := "bosun/bosunlaw07.CurveSums", spec := "curveSums", inPlace := ["math/bits.Add64", "math/bits.Sub64"], apart := false, narrowed := true }
def CurveSumsUptoSaid : Prop := curveSumsUptoRow.holds Try.pinned (OpenSpec.upto curveSumsSpec)

/-- 'bosunlaw07.CurveRules', WHERE WHAT IT READS IS OF BULK AT MOST 1048576: true; the input reads as it did. -/
def curveRulesUptoRow : OpenClaim := { program := "ythgibibeoapfbaa", sum := "81065036e152e001f4743fd8bb6ec0cc312b8ff8abafe64cb8f2f3bbd985074a", func := "bosun/bosunlaw07.CurveRules", spec := "curveRules", inPlace := ["math/bits.Add64", "math/bits.Sub64"], apart := false, narrowed := true }
def CurveRulesUptoSaid : Prop := curveRulesUptoRow.holds Try.pinned (OpenSpec.upto curveRulesSpec)

/-- 'bosunlaw08.SignSigned', WHERE WHAT IT READS IS OF BULK AT MOST 1048576: true; the input reads as it did. -/
def signSignedUptoRow : OpenClaim := { program := "ythgibibeoapfbaa", sum := "81065036e152e001f4743fd8bb6ec0cc312b8ff8abafe64cb8f2f3bbd985074a", func := "bosun/bosunlaw08.SignSigned", spec := "signSigned", inPlace := ["math/bits.Add64", "math/bits.Sub64"], apart := false, narrowed := true }
def SignSignedUptoSaid : Prop := signSignedUptoRow.holds Try.pinned (OpenSpec.upto signSignedSpec)

/-- 'bosunlaw08.SignAny', WHERE WHAT IT READS IS OF BULK AT MOST 1048576: true; the input reads as it did. -/
def signAnyUptoRow : OpenClaim := { program := "ythgibibeoapfbaa", sum := "81065036e152e001f4743fd8bb6ec0cc312b8ff8abafe64cb8f2f3bbd985074a", func := "bosun/bosunlaw08.SignAny", spec := "signAny", inPlace := ["math/bits.Add64", "math/bits.Sub64"], apart := false, narrowed := true }
def SignAnyUptoSaid : Prop := signAnyUptoRow.holds Try.pinned (OpenSpec.upto signAnySpec)

/-- 'bosunlaw08.SignParts', WHERE WHAT IT READS IS OF BULK AT MOST 1048576: true; the input reads as it did. -/
def signPartsUptoRow : OpenClaim := { program := "ythgibibeoapfbaa", sum := "81065036e152e001f4743fd8bb6ec0cc312b8ff8abafe64cb8f2f3bbd985074a", func := "bosun/bosunlaw08.SignParts", spec := "signParts", inPlace := ["math/bits.Add64", "math/bits.Sub64"], apart := false, narrowed := true }
def SignPartsUptoSaid : Prop := signPartsUptoRow.holds Try.pinned (OpenSpec.upto signPartsSpec)

end Rows
end Go.Proofs.Ythgibibeoapfbaa
